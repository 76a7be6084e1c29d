/- Functions that may panic, with one deferred call that recovers: sound; contracts by types (nothing is claimed here). -/
import Derived.Test.YtchljgmcempedaaGreatDoorSh36
set_option linter.unusedVariables false
set_option linter.unusedSimpArgs false
namespace Go.Proofs.YtchljgmcempedaaGreatDoor
open Go Go.RowKit

section code
variable {E : Env} {n0 : Nat} {w0 : World} {h0 h : Hp} {θ : Th} {w : World}
theorem run_eq_nil {P : Program} {t : TypeId} {ms} (w : World) (hu : P.underlying t = some (.interface ms)) : (Op.equal t .nilIface .nilIface).run P w = .ok true w := by
  have key : ∀ d, (Op.equalIn (d + 1) t .nilIface .nilIface).run P w = .ok true w := fun d => by
    simp [Op.equalIn, run_underlying hu]
  exact key 9999
theorem run_eq_iface {P : Program} {t t' : TypeId} {ms} {y : Value} (w : World) (hu : P.underlying t = some (.interface ms)) : (Op.equal t (.iface t' y) .nilIface).run P w = .ok false w := by
  have key : ∀ d, (Op.equalIn (d + 1) t (.iface t' y) .nilIface).run P w = .ok false w := fun d => by
    simp [Op.equalIn, run_underlying hu]
  exact key 9999
theorem run_neq_nil {P : Program} {t : TypeId} {ms} {x : Operand} {c : Value} (w : World) (hu : P.underlying t = some (.interface ms)) : (do eqGuard .neq t x (.const c) .nilIface .nilIface; binOp .neq t .nilIface .nilIface : Sem Value).run P w = .ok (.bool false) w := by
  simp [eqGuard, binOp, run_eq_nil w hu]
theorem run_neq_iface {P : Program} {t t' : TypeId} {ms} {y : Value} {x : Operand} {c : Value} (w : World) (hu : P.underlying t = some (.interface ms)) : (do eqGuard .neq t x (.const c) (.iface t' y) .nilIface; binOp .neq t (.iface t' y) .nilIface : Sem Value).run P w = .ok (.bool true) w := by
  simp [eqGuard, binOp, run_eq_iface w hu]
/-- one operation of the deferred function -/
theorem evOpX_ok (ok : EnvOk E) (G : Goal) {ops : Array Oper} {o : Oper} {s : St} {K : St → Tree} {a : Act} (R : SRel E n0 w0 h0 h θ s a w) (e : (evOpX E ops o s K).holds G) {next : Act → World → Prop} {Q : Exit → Act → World → Prop}
  (hn : ∀ s' a' w' h' θ', SRel E n0 w0 h0 h' θ' s' a' w' → Later h θ s a h' θ' s' a' → (K s').holds G → next a' w') :
  (Region.wanted o (yielded ops a.tmps) = true ∧ o.wpIn (FW none) 0 E.P a w next Q) ∨ (Region.wanted o (yielded ops a.tmps) = false ∧ next (a.put o.dst undef) w) := by
  have plain : (evOp E hooksN true ops o s.M s K noK).holds G → (Region.wanted o (yielded ops a.tmps) = true ∧ o.wpIn (FW none) 0 E.P a w next Q) ∨ (Region.wanted o (yielded ops a.tmps) = false ∧ next (a.put o.dst undef) w) := fun e =>
    evOp_ok (r := none) ok (Closed.holds G) (hooksN_ok G) (Q := Q) R e (fun s' a' w' h' θ' R' hh ht hκ hsn hd e' => hn s' a' w' h' θ' R' ⟨hh, ht, hκ, hsn, hd⟩ e') (fun v u M' κ' w' h' θ' I' ru hh ht hκ e' => False.elim e')
  have put : ∀ {v : SV} {u : Value}, Rep h θ v u → (putK s.n s.T o.dst v fun T => K ⟨T, s.M, s.κ, s.n⟩).holds G → next (a.put o.dst u) w := fun {v u} ru e => by
    obtain ⟨e, hd⟩ := putK_holds (Closed.holds G) e
    exact hn ⟨putT s.T o.dst v, s.M, s.κ, s.n⟩ _ w h θ ⟨R.inv, put_rep R.tmps ru (by rw [R.size]; exact hd), by rw [put_size]; exact R.size⟩ ⟨.refl _, .refl _, Nat.le_refl _, rfl, put_defers _ _ _⟩ e
  unfold evOpX at e
  split at e
  · rename_i t x t' hg hop
    refine .inl ⟨wanted_none hg _, wpIn_of (fun c hc => by rw [hop] at hc; cases hc) ?_⟩
    split at e
    · rename_i ms hu
      have rx := opd_rep R.tmps x
      split at e
      · rename_i hq
        rw [hq] at rx
        have hv : a.eval x = .nilIface := by generalize a.eval x = u at rx; cases rx; rfl
        have hrun : (execOp a.eval o).run E.P w = .ok (.value (.bool false)) w := by
          simp only [execOp, hop, hv]
          rw [Sem.run_bind, show (do eqGuard .neq t x (.const .nilIface) .nilIface (a.eval (.const .nilIface)); binOp .neq t .nilIface (a.eval (.const .nilIface)) : Sem Value).run E.P w = .ok (.bool false) w from run_neq_nil w hu]
          rfl
        rw [hrun]
        exact put (.b false) e
      · rename_i t1 y hq
        rw [hq] at rx
        have hv : a.eval x = .iface t1 y := by generalize a.eval x = u at rx; cases rx; rfl
        have hrun : (execOp a.eval o).run E.P w = .ok (.value (.bool true)) w := by
          simp only [execOp, hop, hv]
          rw [Sem.run_bind, show (do eqGuard .neq t x (.const .nilIface) (.iface t1 y) (a.eval (.const .nilIface)); binOp .neq t (.iface t1 y) (a.eval (.const .nilIface)) : Sem Value).run E.P w = .ok (.bool true) w from run_neq_iface w hu]
          rfl
        rw [hrun]
        exact put (.b true) e
      · exact e.elim
    · exact e.elim
  · rename_i x t0 t hg hop
    refine .inl ⟨wanted_none hg _, wpIn_of (fun c hc => by rw [hop] at hc; cases hc) ?_⟩
    have rx := opd_rep R.tmps x
    split at e
    · rename_i t1 fs hq hu
      obtain ⟨ht, e2⟩ := holds_need (Closed.holds G) e
      clear e
      have ht := Nat.eq_of_beq_eq_true ht
      subst ht
      rw [hq] at rx
      have hv : a.eval x = .iface t1 (.agg #[]) := by generalize a.eval x = u at rx; cases rx; rfl
      have hrun : (execOp a.eval o).run E.P w = .ok (.value (.tuple #[.agg #[], .bool true])) w := by
        simp [execOp, hop, hv, Instr.typeAssert, run_underlying hu]
      rw [hrun]
      exact put (.tup _ [.agg #[], .bool true] (.cons _ _ _ _ (.agg [] [] .nil) (.cons _ _ _ _ (.b true) .nil))) e2
    · exact e.elim
  · rename_i t p x hg hop
    rcases holds_bif (H := fun t => t.holds G) e with ⟨hz, e⟩ | ⟨hz, e⟩
    · refine .inl ⟨wanted_none hg _, wpIn_of (fun c hc => by rw [hop] at hc; cases hc) ?_⟩
      have rp := opd_rep R.tmps p
      have rx := opd_rep R.tmps x
      split at e
      · rename_i k off ix n hq1 hq2
        obtain ⟨hi, e⟩ := holds_need (Closed.holds G) e
        obtain ⟨i, hi⟩ := Option.isSome_iff_exists.1 hi
        rw [hq1] at rp
        rw [hq2] at rx
        obtain ⟨ad, hp⟩ : ∃ ad, a.eval p = .pointer (some ad) := by generalize a.eval p = u at rp; cases rp; exact ⟨_, rfl⟩
        have hx : a.eval x = .agg #[] := by
          generalize a.eval x = u at rx
          cases rx with
          | agg _ vs r => rw [r.nil_inv]
        have hz0 : E.P.cellsOf t = 0 := Nat.eq_of_beq_eq_true hz
        have hrun : (execOp a.eval o).run E.P w = .ok .skip w := by
          have hc : (Value.agg #[]).cells = #[] := rfl
          simp [execOp, hop, hp, hx, Instr.storeAt, Instr.sureAddr, storeVar, run_sizeOf w hi, hz0, storeCells, hc]
        rw [hrun]
        exact put .undef e
      · exact e.elim
    · exact plain e
  · exact plain e
theorem evOpsX_ok (ok : EnvOk E) (G : Goal) {ops : Array Oper} {Q : Exit → Act → World → Prop} : ∀ (rest : List Oper) (j : Nat), ops.toList.drop j = rest →
    ∀ {s : St} {K : St → Tree} {a : Act} {w : World} {h : Hp} {θ : Th}, SRel E n0 w0 h0 h θ s a w → (evOpsX E ops rest s K).holds G →
      (∀ s' a' w' h' θ', SRel E n0 w0 h0 h' θ' s' a' w' → Later h θ s a h' θ' s' a' → (K s').holds G → Q .normal a' w') →
      wpOpsIn (FW none) 0 E.P ops Q (List.range' j rest.length) a w
  | [], j, hj, s, K, a, w, h, θ, R, e, hn => hn s a w h θ R (.refl _ _ _ _) e
  | o :: rest, j, hj, s, K, a, w, h, θ, R, e, hn => by
    have hlen : j < ops.toList.length := by
      rcases Nat.lt_or_ge j ops.toList.length with h | h
      · exact h
      · rw [List.drop_of_length_le h] at hj; cases hj
    rw [List.drop_eq_getElem_cons hlen] at hj
    injection hj with ho hrest
    have hoj : ops[j]? = some o := by
      rw [← ho, Array.getElem?_eq_getElem (by simpa using hlen)]; simp
    rw [List.length_cons, List.range'_succ]
    simp only [wpOpsIn, hoj]
    have := evOpX_ok ok G (Q := Q) R e (next := wpOpsIn (FW none) 0 E.P ops Q (List.range' (j + 1) rest.length)) (fun s' a' w' h' θ' R' L' e' =>
      evOpsX_ok ok G rest (j + 1) hrest R' e' (fun s2 a2 w2 h2 θ2 R2 L2 e2 => hn s2 a2 w2 h2 θ2 R2 (L'.trans L2) e2))
    rcases this with ⟨hw, hwp⟩ | ⟨hw, hnx⟩
    · rw [if_pos hw]; exact hwp
    · rw [if_neg (by rw [hw]; simp)]; exact ⟨fun _ _ => trivial, hnx⟩
theorem codeX_ok (ok : EnvOk E) : ∀ (n : Nat) (G : Goal) (c : Code) (s : St) (K : Ex → St → Tree) (a : Act) (w : World) (h : Hp) (θ : Th) (Q : Exit → Act → World → Prop), SRel E n0 w0 h0 h θ s a w → (evCodeX E n c s K).holds G →
    (∀ e s' a' w' h' θ', SRel E n0 w0 h0 h' θ' s' a' w' → Later h θ s a h' θ' s' a' → (K e s').holds G → Q (exT e) a' w') → c.wpIn (FW none) 0 E.P Q a w
  | 0, G, c, s, K, a, w, h, θ, Q, R, e, hk => e.elim
  | n + 1, G, c, s, K, a, w, h, θ, Q, R, e, hk => by
    have ih := codeX_ok ok n
    cases c <;> simp only [evCodeX] at e <;> first | exact e.elim | skip
    case skip => exact wpIn_skip (hk .normal s a w h θ R (.refl _ _ _ _) e)
    case label l => exact wpIn_label (hk .normal s a w h θ R (.refl _ _ _ _) e)
    case exit id => exact wpIn_exit (hk (.exit id) s a w h θ R (.refl _ _ _ _) e)
    case ret => exact wpIn_ret (hk .ret s a w h θ R (.refl _ _ _ _) e)
    case region id ops draw =>
      cases draw with
      | true => exact e.elim
      | false =>
        simp only [cond_false] at e
        refine wpIn_region (F := FW none) (n := 0) ?_
        have := evOpsX_ok ok G (Q := Q) ops.toList 0 (by simp) R e (fun s' a' w' h' θ' R' L' e' => hk .normal s' a' w' h' θ' R' L' e')
        rw [List.range_eq_range']
        simpa using this
    case seq x y =>
      refine wpIn_seq (ih G x s _ a w h θ _ R e fun ex s' a' w' h' θ' R' L' e' => ?_)
      cases ex with
      | normal => exact ih G y s' K a' w' h' θ' Q R' e' fun e2 s2 a2 w2 h2 θ2 R2 L2 e2' => hk e2 s2 a2 w2 h2 θ2 R2 (L'.trans L2) e2'
      | exit i => exact hk (.exit i) s' a' w' h' θ' R' L' e'
      | ret => exact hk .ret s' a' w' h' θ' R' L' e'
    case cond c x y =>
      have r := opd_rep R.tmps c
      split at e
      · rename_i hq
        rw [hq] at r
        have hv : a.eval c = .bool true := by generalize a.eval c = u at r; cases r; rfl
        exact wpIn_cond_true hv (ih G x s K a w h θ Q R e hk)
      · rename_i hq
        rw [hq] at r
        have hv : a.eval c = .bool false := by generalize a.eval c = u at r; cases r; rfl
        exact wpIn_cond_false hv (ih G y s K a w h θ Q R e hk)
      · rename_i q hq
        rw [hq] at r
        have hv : a.eval c = .bool q := by generalize a.eval c = u at r; cases r; rfl
        refine wpIn_cond hv ?_
        rcases holds_bif (H := fun t => t.holds G) e with ⟨rfl, e⟩ | ⟨rfl, e⟩
        · exact ih G x s K a w h θ Q R e hk
        · exact ih G y s K a w h θ Q R e hk
      · exact e.elim
/-- what recover gives, and how the frame below stands then -/
def recV : FrameMode → Option (Value × FrameMode)
  | .returning => some (.nilIface, .returning)
  | .panicking [⟨u, false, false⟩] => some (u, .panicking [⟨u, true, false⟩])
  | _ => none
theorem dfr_ok (ok : EnvOk E) {n : Nat} {G : Goal} {fd : Func} {f : FuncId} (hf : E.P.funcs[f]? = some fd) {args : List SV} {pv : SV} {M : Mem} {κ : Nat} {K : Mem → Nat → Tree} (e : (evDfr E n fd args pv M κ K).holds G) {us : List Value} {u : Value} {m m' : FrameMode} (I : Inv E n0 w0 h0 h θ M (fun k => κ ≤ k) w) (ru : RepL h θ args us) (rv : Rep h θ pv u) (hm : recV m = some (u, m')) :
    CallsDIn (FW none) 0 E.P f us.toArray m w fun en m2 w' => ∃ v M' κ' h' θ', en = .returned v ∧ m2 = m' ∧ h.le h' ∧ θ.le θ' ∧ κ ≤ κ' ∧ Inv E n0 w0 h0 h' θ' M' (fun k => κ' ≤ k) w' ∧ (K M' κ').holds G := by
  unfold evDfr at e
  split at e
  · rename_i id ops rest hbody hres
    split at e
    · rename_i o1 o2 hops
      split at e
      · rename_i c d x d2 a1 a2 a3 a4 a5 a6
        split at e
        · rename_i hcal
          obtain ⟨hb, e⟩ := holds_need (Closed.holds G) e
          simp only [Bool.and_eq_true] at hb
          obtain ⟨b1, b2, b3, b4⟩ := hb
          have b1 := Nat.eq_of_beq_eq_true b1
          subst b1
          have b2 : args.length ≤ fd.ntmps := Nat.le_of_ble_eq_true b2
          have b3 := blt_lt b3
          have b4 := blt_lt b4
          have hlen : us.length = args.length := repL_length ru
          refine callsDIn_of_wpSIn hf hbody trivial fun c₀ cs hc0 => ?_
          have hsz : ops.size = 2 := by rw [← Array.length_toList, hops]; rfl
          have g0 : ops[0]? = some o1 := by rw [← Array.getElem?_toList, hops]; rfl
          have g1 : ops[1]? = some o2 := by rw [← Array.getElem?_toList, hops]; rfl
          have hT0 : RepT h θ (initT args) (us.toArray ++ Array.replicate (fd.ntmps - us.toArray.size) undef) := initT_rep _ ru
          have hn0 : (us.toArray ++ Array.replicate (fd.ntmps - us.toArray.size) undef).size = fd.ntmps := by simp; omega
          generalize us.toArray ++ Array.replicate (fd.ntmps - us.toArray.size) undef = tm at hT0 hn0 ⊢
          refine wpSIn_seq (wpSIn_region ?_)
          rw [hsz]
          show wpOpsSIn _ _ _ ops _ [0, 1] _ _ _
          have hrun : ∀ a : Act, (execOp a.eval o1).run E.P w = .ok .recover w := fun a => by
            simp [execOp, a1, resolve, hcal, invoke, builtin]
          have hrun2 : ∀ a : Act, (execOp a.eval o2).run E.P w = .ok (.value (a.eval (.tmp x))) w := fun a => by
            simp [execOp, a4]
          have r1 : SRel E n0 w0 h0 h θ ⟨Tmps.put (initT args) (some x) pv, M, κ, fd.ntmps⟩ (({ tmps := tm, defers := [] } : Act).put (some x) u) w := by
            refine ⟨I, fun t => ?_, by rw [put_size]; exact hn0⟩
            have hx := hT0 t
            simp only [Tmps.put, Act.put]
            by_cases ht : t = x
            · subst ht
              rw [Nat.beq_refl, cond_true, Array.getD_eq_getD_getElem?, Array.getElem?_setIfInBounds_self_of_lt (by omega)]
              exact rv
            · rw [beq_ne ht, cond_false, Array.getD_eq_getD_getElem?, Array.getElem?_setIfInBounds_ne (Ne.symm ht), ← Array.getD_eq_getD_getElem?]
              exact hx
          have hev : (({ tmps := tm, defers := [] } : Act).put (some x) u).eval (.tmp x) = u := by
            simp only [Act.eval, Act.put]
            rw [Array.getD_eq_getD_getElem?, Array.getElem?_setIfInBounds_self_of_lt (by omega)]
            rfl
          have r2 : SRel E n0 w0 h0 h θ ⟨Tmps.put (Tmps.put (initT args) (some x) pv) (some d2) pv, M, κ, fd.ntmps⟩ ((({ tmps := tm, defers := [] } : Act).put (some x) u).put (some d2) u) w := by
            refine ⟨I, fun t => ?_, by rw [put_size, put_size]; exact hn0⟩
            have hx := r1.tmps t
            generalize (({ tmps := tm, defers := [] } : Act).put (some x) u) = a1 at hx r1 ⊢
            have hn1 : a1.tmps.size = fd.ntmps := r1.size
            simp only [Tmps.put, Act.put] at hx ⊢
            by_cases ht : t = d2
            · subst ht
              rw [Nat.beq_refl, cond_true, Array.getD_eq_getD_getElem?, Array.getElem?_setIfInBounds_self_of_lt (by omega)]
              exact rv
            · rw [beq_ne ht, cond_false, Array.getD_eq_getD_getElem?, Array.getElem?_setIfInBounds_ne (Ne.symm ht), ← Array.getD_eq_getD_getElem?]
              exact hx
          have fin : ∀ cs', cs' = { c₀ with mode := m' } :: cs → rest.wpSIn (FW none) 0 E.P (bodyPostS E.P fd c₀ cs fun en m2 w' => ∃ v M' κ' h' θ', en = .returned v ∧ m2 = m' ∧ h.le h' ∧ θ.le θ' ∧ κ ≤ κ' ∧ Inv E n0 w0 h0 h' θ' M' (fun k => κ' ≤ k) w' ∧ (K M' κ').holds G) ((({ tmps := tm, defers := [] } : Act).put (some x) u).put (some d2) u) cs' w := fun cs' hcs => by
            refine wpSIn_of_wpIn rfl ?_
            refine codeX_ok ok n G rest _ _ _ w h θ _ r2 e fun ex s' a' w' h' θ' R' L' e' => ?_
            have fin : (K s'.M s'.κ).holds G → a'.defers = [] ∧ ∃ u', cs' = { c₀ with mode := u' } :: cs ∧ ∃ v, (results fd a'.tmps).run E.P w' = .ok v w' ∧ ∃ v' M' κ' h' θ', Ending.returned v = .returned v' ∧ u' = m' ∧ h.le h' ∧ θ.le θ' ∧ κ ≤ κ' ∧ Inv E n0 w0 h0 h' θ' M' (fun k => κ' ≤ k) w' ∧ (K M' κ').holds G := fun e' => by
              refine ⟨L'.d.trans (by rw [put_defers, put_defers]), m', hcs, ?_⟩
              obtain ⟨v, hv, _⟩ := result_ok R'.inv R'.tmps (fn := fd) (vs := []) (by rw [hres]; rfl)
              exact ⟨v, hv, v, s'.M, s'.κ, h', θ', rfl, rfl, L'.hh, L'.ht, L'.κ, R'.inv, e'⟩
            cases ex with
            | normal => exact fin e'
            | ret => exact fin e'
            | exit i => exact e'.elim
          simp only [wpOpsSIn, g0, g1]
          refine ⟨fun _ _ => trivial, ?_⟩
          rw [if_pos (wanted_none a2 _)]
          simp only [hrun]
          cases m with
          | run => cases hm
          | returning =>
            simp only [recV, Option.some.injEq, Prod.mk.injEq] at hm
            obtain ⟨rfl, rfl⟩ := hm
            have hrec : recoverD (c₀ :: cs) = none := by simp [recoverD, hc0]
            simp only [hrec]
            refine ⟨fun _ _ => trivial, ?_⟩
            rw [if_pos (wanted_none a5 _), hrun2]
            simp only [a3, a6, hev]
            exact fin _ (by rw [← hc0])
          | panicking chain =>
            unfold recV at hm
            split at hm
            · rename_i q; cases q
            · rename_i u1 q
              cases q
              simp only [Option.some.injEq, Prod.mk.injEq] at hm
              obtain ⟨rfl, rfl⟩ := hm
              have hrec : recoverD (c₀ :: cs) = some (u1, { c₀ with mode := .panicking [⟨u1, true, false⟩] } :: cs) := by simp [recoverD, hc0]
              simp only [hrec]
              refine ⟨fun _ _ => trivial, ?_⟩
              rw [if_pos (wanted_none a5 _), hrun2]
              simp only [a3, a6, hev]
              exact fin _ rfl
            · cases hm
        · exact e.elim
      · exact e.elim
    · exact e.elim
  · exact e.elim
end code
end Go.Proofs.YtchljgmcempedaaGreatDoor
