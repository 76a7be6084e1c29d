/- Regions whose order is drawn do what the evaluator says, whatever the order (nothing is claimed here). -/
import Derived.Test.YtchljgmcempedaaGreatDoorSh17
import Derived.Orders
set_option linter.unusedVariables false
set_option linter.unusedSimpArgs false
namespace Go.Proofs.YtchljgmcempedaaGreatDoor
open Go Go.RowKit

section one
variable {E : Env} {n0 : Nat} {w0 : World} {h0 h : Hp} {θ : Th} {M : Mem} {Fr : Nat → Prop} {κ : Nat} {w : World} {H : Tree → Prop} {r : Option Nat}

theorem wp_some {P : Program} {o : Oper} {a : Act} {w : World} {G : Prop} (e : o.wpIn (FW r) 0 P a w (fun _ _ => G) (fun _ _ _ => G)) : G := by
  have e := e.2
  generalize (o.semAt (FW r).round a.eval).run P w = x at e
  cases x with
  | ok n w' =>
    cases n <;> simp only [Oper.uponIn] at e <;> first | exact e | exact e.elim | skip
    · obtain ⟨_, _, e⟩ := e
      obtain ⟨en, w2, fr, hR, _⟩ := e [] (room_wide _)
      cases en with
      | returned v => exact hR
      | panicked c => exact hR
      | outgrown => obtain ⟨_, _, h⟩ := hR; exact h
    · obtain ⟨_, _, e⟩ := e
      obtain ⟨en, w2, hR, _⟩ := e default [] (room_wide _)
      cases en with
      | returned v => exact hR
      | panicked c => exact hR
      | outgrown => obtain ⟨_, _, h⟩ := hR; exact h
    · obtain ⟨_, e⟩ := e
      obtain ⟨v, w2, hR, _⟩ := e default [] (room_wide _)
      exact hR
  | halt x w' => cases x <;> simp only [Oper.uponIn] at e <;> first | exact e | exact e.elim
theorem calls_some {P : Program} {f : FuncId} {args : Array Value} {w : World} {R : Ending → World → Prop} (e : Calls P f args w R) : ∃ en w', R en w' := by
  obtain ⟨en, w', fr, hR, _⟩ := e []
  exact ⟨en, w', hR⟩

theorem valOf_some {x : Option Out} {v : SV} {b : Option (Nat × Blk)} (e : valOf κ x = some (v, b)) : ∃ b', x = some (.val v b') ∧ ∀ M : Mem, M.newK b = M.new κ b' := by
  unfold valOf at e
  split at e
  · rename_i v' b'
    cases e
    refine ⟨b', rfl, fun M => ?_⟩
    cases b' <;> rfl
  · cases e
theorem opEval_ok (ok : EnvOk E) (I : Inv E n0 w0 h0 h θ M Fr w) (f : Fr κ) {ops : Array Oper} {o : Oper} {T : Tmps} {a : Act} (hT : RepT h θ T a.tmps) {v : SV} {b : Option (Nat × Blk)} (e : opEval E ops o T M κ = some (v, b)) :
    (Region.wanted o (yielded ops a.tmps) = true ∧ ∀ (next : Act → World → Prop) (Q : Exit → Act → World → Prop),
      (∀ u w' h' θ', h.le h' → θ.le θ' → Inv E n0 w0 h0 h' θ' (M.newK b) (fun k => Fr k ∧ k ≠ κ) w' → Rep h' θ' v u → next (a.put o.dst u) w') → o.wpIn (FW r) 0 E.P a w next Q) ∨
    (Region.wanted o (yielded ops a.tmps) = false ∧ v = .undef ∧ b = none) := by
  unfold opEval at e
  have run : ∀ out, (stepOp E T M κ o.op).eval = some out → out.v = v → out.mem M κ = M.newK b → ∀ (next : Act → World → Prop) (Q : Exit → Act → World → Prop),
      (∀ u w' h' θ', h.le h' → θ.le θ' → Inv E n0 w0 h0 h' θ' (M.newK b) (fun k => Fr k ∧ k ≠ κ) w' → Rep h' θ' v u → next (a.put o.dst u) w') → o.wpIn (FW r) 0 E.P a w next Q := fun out e hv hm next Q hn => by
    obtain ⟨nx, u, w', h', θ', hr, hnx, hh, ht, I', ru⟩ := step_sound I f hT e
    rw [hm] at I'
    rw [hv] at ru
    have := hn u w' h' θ' hh ht I' ru
    refine wpIn_of (fun c hc => by rw [hc] at e; cases e) ?_
    rw [hr]
    rcases hnx with rfl | ⟨rfl, rfl⟩
    · exact this
    · exact this
  have step : valOf κ (stepOp E T M κ o.op).eval = some (v, b) → ∀ (next : Act → World → Prop) (Q : Exit → Act → World → Prop),
      (∀ u w' h' θ', h.le h' → θ.le θ' → Inv E n0 w0 h0 h' θ' (M.newK b) (fun k => Fr k ∧ k ≠ κ) w' → Rep h' θ' v u → next (a.put o.dst u) w') → o.wpIn (FW r) 0 E.P a w next Q := fun e => by
    obtain ⟨b', hx, hb⟩ := valOf_some e
    exact run _ hx rfl (hb M).symm
  split at e
  · cases e
  · rename_i hg
    cases e
    exact .inr ⟨guard_ok hT hg, rfl, rfl⟩
  · rename_i hg
    refine .inl ⟨guard_ok hT hg, ?_⟩
    split at e
    · rename_i c hop
      split at e
      · rename_i g hcal
        split at e
        · rename_i f' args hca
          cases hgc : E.callee f' with
          | false => rw [hgc] at e; cases e
          | true =>
            rw [hgc] at e; simp only [cond_true] at e
            obtain ⟨us, ru, hrun⟩ := callee_run ok hT hcal hca hgc o.type
            have hex : (execOp a.eval o).run E.P w = .ok (.enter f' us.toArray) w := by
              obtain ⟨dst, op, typ, pos, after, guard⟩ := o
              simp only at hop; subst hop
              exact hrun w
            split at e
            · rename_i S hS
              split at e
              · rename_i args' hl
                split at e
                · rename_i x hr
                  intro next Q hn
                  refine wpIn_of (fun c' hc' => by rw [hop] at hc'; cases hc') ?_
                  rw [hex]
                  refine calls_wide ?_
                  refine (spec_ok ok I hS hl hr ru).mono fun en w' ⟨v', he, wf, ⟨h1, q1, q2, q3⟩, hflat⟩ => ?_
                  subst he
                  cases hk : (((keysL args).isEmpty || flatS (S.enc x)) || frozenL M (keysL args)) with
                  | false => rw [hk] at e; cases e
                  | true =>
                    rw [hk] at e; cases e
                    rw [Bool.or_eq_true, Bool.or_eq_true] at hk
                    rcases hk with (hk | hk) | hk
                    · rw [List.isEmpty_iff.1 hk] at q2
                      exact hn _ w' h1 θ q1 (.refl _) (q2.less (fun _ _ e => e) (fun k hk => hk.1)) q3
                    · obtain ⟨h2, q4, q5, q6⟩ := hflat hk
                      exact hn _ w' h2 θ q4 (.refl _) (q5.less (fun _ _ e => e) (fun k hk => hk.1)) q6
                    · rw [freezeM_frozen hk] at q2
                      exact hn _ w' h1 θ q1 (.refl _) (q2.less (fun _ _ e => e) (fun k hk => hk.1)) q3
                · cases e
              · split at e
                · rename_i args' hl
                  split at e
                  · rename_i x hr
                    intro next Q hn
                    refine wpIn_of (fun c' hc' => by rw [hop] at hc'; cases hc') ?_
                    rw [hex]
                    refine calls_wide ?_
                    refine (spec_look ok I hS hl hr ru).mono fun en w' ⟨v', he, wf, hflat⟩ => ?_
                    subst he
                    cases hk : flatS (S.enc x) with
                    | false => rw [hk] at e; cases e
                    | true =>
                      rw [hk] at e; cases e
                      obtain ⟨h2, q4, q5, q6⟩ := hflat hk
                      exact hn _ w' h2 θ q4 (.refl _) (q5.less (fun _ _ e => e) (fun k hk => hk.1)) q6
                  · cases e
                · cases e
            · cases e
        · cases e
      · exact step e
    · rename_i t ad x hop
      obtain ⟨p, h1, h2⟩ := Option.map_eq_some_iff.1 e
      cases h2
      have := stW_step (κ := κ) h1
      rw [← hop] at this
      exact run _ this rfl rfl
    · exact step e

theorem opEval_step {ops : Array Oper} {o : Oper} {T : Tmps} {M : Mem} {κ : Nat} (hg : guardS ops T o.guard = some true) (hn : ∀ c f, o.op = .call c → c.callee ≠ .value f) (hst : ∀ t a x, o.op ≠ .store t a x) : opEval E ops o T M κ = valOf κ (stepOp E T M κ o.op).eval := by
  unfold opEval
  rw [hg]
  simp only
  split
  · rename_i c hc
    split
    · rename_i f hf; exact absurd hf (hn c f hc)
    · rw [hc]
  · exact absurd ‹_› (hst _ _ _)
  · rfl
/-- the tree of an operation without effects -/
theorem evOp_false (ok : EnvOk E) (C : Closed H) {hk : Hooks} {Kp : KT} {ops : Array Oper} {o : Oper} {Mv : Mem} {s : St} {K : St → Tree} {a : Act} (I : Inv E n0 w0 h0 h θ s.M Fr w) (hT : RepT h θ s.T a.tmps) (hM : Mv.le s.M) (hst : ∀ t a x, o.op ≠ .store t a x) (e : H (evOp E hk false ops o Mv s K Kp)) :
    ∃ v b, opEval E ops o s.T Mv s.κ = some (v, b) ∧ H (K ⟨putT s.T o.dst v, s.M.newK b, s.κ + 1, s.n⟩) ∧ (∀ d, o.dst = some d → d < s.n) ∧ ∀ k bk, b = some (k, bk) → k = s.κ := by
  unfold evOp at e
  have step : H ((stepOp E s.T Mv s.κ o.op).cps false s.M s.κ fun v M => putK s.n s.T o.dst v fun T => K ⟨T, M, s.κ + 1, s.n⟩) →
      ∃ v b, valOf s.κ (stepOp E s.T Mv s.κ o.op).eval = some (v, b) ∧ H (K ⟨putT s.T o.dst v, s.M.newK b, s.κ + 1, s.n⟩) ∧ (∀ d, o.dst = some d → d < s.n) ∧ ∀ k bk, b = some (k, bk) → k = s.κ := fun e => by
    obtain ⟨out, he, e, hv⟩ := cps_holds C e
    obtain ⟨v, b, rfl⟩ := hv rfl
    obtain ⟨e, hd⟩ := putK_holds C e
    refine ⟨v, b.map fun b => (s.κ, b), by rw [he]; rfl, ?_, hd, fun k bk hb => ?_⟩
    · cases b <;> exact e
    · cases b with
      | none => cases hb
      | some b => cases hb; rfl
  split at e
  · exact (C.fail e).elim
  · obtain ⟨e, hd⟩ := putK_holds C e
    exact ⟨.undef, none, by unfold opEval; rw [‹guardS ops s.T o.guard = some false›], e, hd, fun k bk hb => by cases hb⟩
  · rename_i hg
    have step' : (∀ c f, o.op = .call c → c.callee ≠ .value f) → H ((stepOp E s.T Mv s.κ o.op).cps false s.M s.κ fun v M => putK s.n s.T o.dst v fun T => K ⟨T, M, s.κ + 1, s.n⟩) →
        ∃ v b, opEval E ops o s.T Mv s.κ = some (v, b) ∧ H (K ⟨putT s.T o.dst v, s.M.newK b, s.κ + 1, s.n⟩) ∧ (∀ d, o.dst = some d → d < s.n) ∧ ∀ k bk, b = some (k, bk) → k = s.κ := fun hn e => by
      rw [opEval_step hg hn hst]; exact step e
    split at e
    · rename_i c hop
      split at e
      · rename_i f hcal
        split at e
        · rename_i g args hca
          obtain ⟨hgc, e⟩ := holds_need C e
          obtain ⟨us, ru, hrun⟩ := callee_run ok hT hcal hca hgc o.type
          unfold evCallOp at e
          split at e
          · rename_i S hS
            split at e
            · rename_i args' hl
              split at e
              · rename_i pre x hr
                obtain ⟨rfl, e⟩ := holds_need C e
                have ho : opEval E ops o s.T Mv s.κ = bif ((keysL args).isEmpty || flatS (S.enc x)) || frozenL Mv (keysL args) then some (S.enc x, none) else none := by
                  unfold opEval
                  simp only [hg, hop, hcal, hca, hgc, cond_true, hS, hl, hr]
                obtain ⟨_, _, _, _, wf, _⟩ := calls_some (spec_ok ok I hS (liftL_mono hM hl) hr ru)
                split at e
                · rename_i hk
                  have e := C.letv e x rfl wf
                  obtain ⟨e, hd⟩ := putK_holds C e
                  refine ⟨S.enc x, none, ?_, e, hd, fun k bk hb => by cases hb⟩
                  rw [ho, hk]; rfl
                · have e := C.letv e x rfl wf
                  rcases holds_bif e with ⟨hf, e⟩ | ⟨_, e⟩
                  · obtain ⟨e, hd⟩ := putK_holds C e
                    refine ⟨S.enc x, none, ?_, e, hd, fun k bk hb => by cases hb⟩
                    rw [ho, hf, Bool.or_true]; rfl
                  · simp only [cond_false] at e
                    rcases holds_bif e with ⟨hf, e⟩ | ⟨_, e⟩
                    · obtain ⟨e, hd⟩ := putK_holds C e
                      refine ⟨S.enc x, none, ?_, e, hd, fun k bk hb => by cases hb⟩
                      rw [ho, hf, Bool.or_true]; rfl
                    · exact (C.fail e).elim
              · exact (C.fail e).elim
            · rename_i hln
              split at e
              · rename_i args' hl
                split at e
                · rename_i pre x hr
                  obtain ⟨rfl, e⟩ := holds_need C e
                  obtain ⟨_, _, _, _, wf, _⟩ := calls_some (spec_look ok I hS (liftPL_mono hM hl) hr ru)
                  have e := C.letv e x rfl wf
                  obtain ⟨hf, e⟩ := holds_need C e
                  obtain ⟨e, hd⟩ := putK_holds C e
                  refine ⟨S.enc x, none, ?_, e, hd, fun k bk hb => by cases hb⟩
                  unfold opEval
                  simp only [hg, hop, hcal, hca, hgc, cond_true, hS, hln, hl, hr, hf]
                · exact (C.fail e).elim
              · exact (C.fail e).elim
          · exact (C.fail e).elim
        · split at e
          · exact (C.fail e).elim
          · exact (C.fail e).elim
      · rename_i hne
        refine step' (fun c' f' h1 h2 => ?_) e
        rw [hop] at h1; cases h1
        exact hne f' h2
    · rename_i op t x y ty hop
      split at e
      · exact (C.fail e).elim
      · exact step' (fun c' f' h1 _ => by rw [hop] at h1; cases h1) e
    · split at e
      · exact (C.fail e).elim
      · exact (C.fail e).elim
    · exact (C.fail e).elim
    · rename_i hne _ _ _
      exact step' (fun c' f' h1 _ => hne c' h1) e
/-- the tree of an operation within a stretch -/
theorem evFree_ok (ok : EnvOk E) (C : Closed H) {hk : Hooks} {ops : Array Oper} {o : Oper} {ws : List (Nat × Nat)} {j κs : Nat} {Mv : Mem} {s : St} {K : St → Tree} {a : Act} (I : Inv E n0 w0 h0 h θ s.M Fr w) (hT : RepT h θ s.T a.tmps) (hM : Mv.le s.M) (e : H (evFree E hk ops o ws j κs Mv s K)) :
    ∃ v b, opEval E ops o s.T Mv s.κ = some (v, b) ∧ H (K ⟨putT s.T o.dst v, s.M.newK b, s.κ + 1, s.n⟩) ∧ (∀ d, o.dst = some d → d < s.n) ∧ ∀ k bk, b = some (k, bk) → k = s.κ ∨ (hasW j k ws = true ∧ ∃ b', Mv k = some b') := by
  unfold evFree at e
  split at e
  · rename_i t ad x hop
    split at e
    · exact (C.fail e).elim
    · rename_i hg
      obtain ⟨e, hd⟩ := putK_holds C e
      exact ⟨.undef, none, by unfold opEval; rw [hg], e, hd, fun k bk hb => by cases hb⟩
    · rename_i hg
      split at e
      · rename_i p hp
        cases hw : hasW j p.1 ws with
        | false => rw [hw] at e; exact (C.fail e).elim
        | true =>
          rw [hw] at e; simp only [cond_true] at e
          obtain ⟨e, hd⟩ := putK_holds C e
          refine ⟨.undef, some p, by unfold opEval; simp only [hg, hop, hp]; rfl, e, hd, fun k bk hb => .inr ?_⟩
          cases hb
          exact ⟨hw, stW_see hp⟩
      · exact (C.fail e).elim
  · rename_i hne
    obtain ⟨v, b, h1, h2, h3, h4⟩ := evOp_false ok C I hT hM (fun t a x => hne t a x) e
    exact ⟨v, b, h1, h2, h3, fun k bk hb => .inl (h4 k bk hb)⟩
end one

/-! who comes before whom -/
theorem getD_right {α : Type} (a b : List α) (n : Nat) (d : α) (h : a.length ≤ n) : (a ++ b).getD n d = b.getD (n - a.length) d := by
  rw [List.getD_eq_getElem?_getD, List.getElem?_append_right h, List.getD_eq_getElem?_getD]
theorem getD_left {α : Type} (a b : List α) (n : Nat) (d : α) (h : n < a.length) : (a ++ b).getD n d = a.getD n d := by
  rw [List.getD_eq_getElem?_getD, List.getElem?_append_left h, List.getD_eq_getElem?_getD]
theorem getD_none {α : Type} (a : List α) (n : Nat) (d : α) (h : a.length ≤ n) : a.getD n d = d := by
  rw [List.getD_eq_getElem?_getD, List.getElem?_eq_none h]; rfl

theorem testBit_or_pow {a b i k : Nat} (h : ((2 ^ k ||| a) ||| b).testBit i = true) : i = k ∨ a.testBit i = true ∨ b.testBit i = true := by
  simp only [Nat.testBit_or, Nat.testBit_two_pow, Bool.or_eq_true, decide_eq_true_eq] at h
  rcases h with (h | h) | h
  · exact .inl h.symm
  · exact .inr (.inl h)
  · exact .inr (.inr h)
theorem bitsE_inv {acc : List Nat} {i : Nat} : ∀ {es : List Edge}, (bitsE acc es).testBit i = true → ∃ e ∈ es, Region.binds .any e = true ∧ (i = e.on ∨ (acc.getD e.on 0).testBit i = true)
  | [], h => by simp [bitsE] at h
  | e :: es, h => by
    simp only [bitsE] at h
    cases hb : Region.binds .any e with
    | false =>
      rw [hb] at h
      obtain ⟨e', h1, h2⟩ := bitsE_inv (es := es) h
      exact ⟨e', List.mem_cons_of_mem _ h1, h2⟩
    | true =>
      rw [hb] at h
      rcases testBit_or_pow h with h | h | h
      · exact ⟨e, List.mem_cons_self, hb, .inl h⟩
      · exact ⟨e, List.mem_cons_self, hb, .inr h⟩
      · obtain ⟨e', h1, h2⟩ := bitsE_inv (es := es) h
        exact ⟨e', List.mem_cons_of_mem _ h1, h2⟩
theorem beforeL_spec : ∀ (l : List Oper) (acc : List Nat), ∃ tl, beforeL acc l = acc ++ tl ∧ tl.length = l.length ∧
    ∀ j o, l[j]? = some o → ∀ i, ((beforeL acc l).getD (acc.length + j) 0).testBit i = true → ∃ e ∈ o.after.toList, Region.binds .any e = true ∧ (i = e.on ∨ (e.on < acc.length + j ∧ ((beforeL acc l).getD e.on 0).testBit i = true))
  | [], acc => ⟨[], by simp [beforeL], rfl, fun j o h => by simp at h⟩
  | o :: l, acc => by
    obtain ⟨tl, h1, h2, h3⟩ := beforeL_spec l (acc ++ [bitsE acc o.after.toList])
    refine ⟨bitsE acc o.after.toList :: tl, ?_, by simp [h2], fun j o' hj i hi => ?_⟩
    · simp only [beforeL]; rw [h1]; simp
    · simp only [beforeL] at hi ⊢
      cases j with
      | zero =>
        simp only [List.getElem?_cons_zero, Option.some.injEq] at hj
        subst hj
        rw [h1] at hi
        simp only [Nat.add_zero] at hi ⊢
        rw [List.append_assoc, getD_right _ _ _ _ (Nat.le_refl _)] at hi
        simp only [Nat.sub_self, List.singleton_append, List.getD_cons_zero] at hi
        obtain ⟨e, q1, q2, q3⟩ := bitsE_inv hi
        refine ⟨e, q1, q2, q3.imp id fun q3 => ?_⟩
        have hlt : e.on < acc.length := by
          rcases Nat.lt_or_ge e.on acc.length with h | h
          · exact h
          · rw [getD_none _ _ _ h] at q3; simp at q3
        refine ⟨hlt, ?_⟩
        rw [h1, List.append_assoc, getD_left _ _ _ _ hlt]
        exact q3
      | succ j =>
        have hlen : (acc ++ [bitsE acc o.after.toList]).length + j = acc.length + (j + 1) := by simp; omega
        have := h3 j o' (by simpa using hj) i (by rw [hlen]; exact hi)
        rw [hlen] at this
        exact this
theorem bef_inv {ops : Array Oper} {j i : Nat} {o : Oper} (ho : ops[j]? = some o) (h : ((beforeL [] ops.toList).getD j 0).testBit i = true) :
    ∃ e ∈ o.after.toList, Region.binds .any e = true ∧ (i = e.on ∨ (e.on < j ∧ ((beforeL [] ops.toList).getD e.on 0).testBit i = true)) := by
  obtain ⟨tl, _, _, h3⟩ := beforeL_spec ops.toList []
  have := h3 j o (by simpa using ho) i (by simpa using h)
  simpa using this
theorem backO_inv : ∀ {l : List Oper} {k j : Nat} {o : Oper}, backO k l = true → l[j]? = some o → ∀ e ∈ o.after.toList, Region.binds .any e = true → e.on < k + j
  | [], k, j, o, h, hj, e, he, hb => by simp at hj
  | o' :: l, k, j, o, h, hj, e, he, hb => by
    simp only [backO, Bool.and_eq_true] at h
    cases j with
    | zero =>
      simp only [List.getElem?_cons_zero, Option.some.injEq] at hj
      subst hj
      have := List.all_eq_true.1 h.1 e he
      rw [hb] at this
      exact blt_lt (by simpa using this)
    | succ j =>
      have := backO_inv h.2 (by simpa using hj) e he hb
      omega
theorem bef_lt {ops : Array Oper} (hback : backO 0 ops.toList = true) : ∀ (j i : Nat), ((beforeL [] ops.toList).getD j 0).testBit i = true → i < j := by
  intro j
  induction j using Nat.strongRecOn with
  | _ j ih =>
    intro i h
    cases ho : ops[j]? with
    | none =>
      obtain ⟨tl, h1, h2, _⟩ := beforeL_spec ops.toList []
      rw [getD_none] at h
      · simp at h
      · rw [h1, List.nil_append, h2]
        have := Array.getElem?_eq_none_iff.1 ho
        simpa using this
    | some o =>
      obtain ⟨e, q1, q2, q3⟩ := bef_inv ho h
      have hlt := backO_inv hback (by simpa using ho) e q1 q2
      rcases q3 with rfl | ⟨_, q3⟩
      · omega
      · have := ih e.on (by omega) i q3
        omega
theorem chkO_inv {b : List Nat} {j : Nat} {rs : List Nat} {d : Option Nat} : ∀ {l : List Oper} {k i : Nat} {o : Oper} {t : Nat}, chkO b j rs d k l = true → l[i]? = some o → o.dst = some t → k + i ≠ j →
    (t ∈ rs → (k + i < j → (b.getD j 0).testBit (k + i) = true) ∧ (j < k + i → (b.getD (k + i) 0).testBit j = true)) ∧ d ≠ some t
  | [], k, i, o, t, h, hi, ht, hne => by simp at hi
  | o' :: l, k, i, o, t, h, hi, ht, hne => by
    simp only [chkO, Bool.and_eq_true] at h
    cases i with
    | zero =>
      simp only [List.getElem?_cons_zero, Option.some.injEq] at hi
      subst hi
      rw [Nat.add_zero] at hne ⊢
      have h := h.1
      rw [ht] at h
      simp only [beq_ne hne, Bool.false_or, Bool.and_eq_true] at h
      refine ⟨fun hm => ?_, fun hd => ?_⟩
      · rw [List.elem_eq_true_of_mem hm] at h
        simp only [cond_true] at h
        refine ⟨fun hlt => ?_, fun hgt => ?_⟩
        · have : Nat.blt k j = true := Nat.ble_eq_true_of_le hlt
          rw [this] at h; exact h.1
        · have : Nat.blt k j = false := by
            cases hq : Nat.blt k j with
            | false => rfl
            | true => have := blt_lt hq; omega
          rw [this] at h; exact h.1
      · subst hd
        simp at h
    | succ i =>
      have := chkO_inv h.2 (by simpa using hi) ht (by omega)
      rwa [show k + 1 + i = k + (i + 1) by omega] at this
theorem chkR_inv {ops : Array Oper} {b : List Nat} : ∀ {l : List Oper} {k j : Nat} {o : Oper}, chkR ops b k l = true → l[j]? = some o → chkO b (k + j) (readsO ops o) o.dst 0 ops.toList = true
  | [], k, j, o, h, hj => by simp at hj
  | o' :: l, k, j, o, h, hj => by
    simp only [chkR, Bool.and_eq_true] at h
    cases j with
    | zero =>
      simp only [List.getElem?_cons_zero, Option.some.injEq] at hj
      subst hj
      exact h.1
    | succ j =>
      have := chkR_inv h.2 (by simpa using hj)
      rwa [show k + 1 + j = k + (j + 1) by omega] at this
theorem barAhead_inv {bj : Nat} : ∀ {n i : Nat}, barAhead bj n = true → i < n → bj.testBit i = true
  | n + 1, i, h, hi => by
    simp only [barAhead, Bool.and_eq_true] at h
    by_cases hn : i = n
    · subst hn; exact h.1
    · exact barAhead_inv h.2 (by omega)
theorem barBehind_inv {j : Nat} : ∀ {l : List Nat} {i : Nat}, barBehind j l = true → i < l.length → (l.getD i 0).testBit j = true
  | b :: l, i, h, hi => by
    simp only [barBehind, Bool.and_eq_true] at h
    cases i with
    | zero => simpa using h.1
    | succ i => simpa using barBehind_inv h.2 (by simpa using hi)
theorem barrier_inv {ops : Array Oper} {j : Nat} (h : barrier (beforeL [] ops.toList) j = true) :
    (∀ i, i < j → ((beforeL [] ops.toList).getD j 0).testBit i = true) ∧ (∀ i, j < i → i < ops.size → ((beforeL [] ops.toList).getD i 0).testBit j = true) := by
  simp only [barrier, Bool.and_eq_true] at h
  refine ⟨fun i hi => barAhead_inv h.1 hi, fun i hi hn => ?_⟩
  obtain ⟨tl, h1, h2, _⟩ := beforeL_spec ops.toList []
  have hlen : (beforeL [] ops.toList).length = ops.size := by rw [h1, List.nil_append, h2]; simp
  have := barBehind_inv h.2 (i := i - (j + 1)) (by rw [List.length_drop, hlen]; omega)
  rw [List.getD_eq_getElem?_getD, List.getElem?_drop] at this
  rw [List.getD_eq_getElem?_getD]
  rwa [show j + 1 + (i - (j + 1)) = i by omega] at this
end Go.Proofs.YtchljgmcempedaaGreatDoor
