/- Code with loops does what the evaluator says (nothing is claimed here). -/
import Derived.Test.YtchljgmcempedaaGreatDoorSh25
set_option linter.unusedVariables false
set_option linter.unusedSimpArgs false
namespace Go.Proofs.YtchljgmcempedaaGreatDoor
open Go Go.RowKit

/-- goals that agree on the levels lv -/
def agree (lv : List Nat) (G G2 : Goal) : Prop := G2.q = G.q ∧ ∀ l, l ∈ lv → G2.n l = G.n l
theorem agree.refl (lv : List Nat) (G : Goal) : agree lv G G := ⟨rfl, fun _ _ => rfl⟩
theorem agree.trans {lv : List Nat} {G G2 G3 : Goal} (h : agree lv G G2) (h' : agree lv G2 G3) : agree lv G G3 := ⟨h'.1.trans h.1, fun l hl => (h'.2 l hl).trans (h.2 l hl)⟩
/-- a call's end -/
def finR (E : Env) (fn : Func) (s : St) : Tree := match resL E s fn.results.toList with
  | some vs => match liftS s.M (oneS vs) with
    | some r => .leaf r
    | none => .fail
  | none => .fail

def Same (s : St) (a : Act) (s' : St) (a' : Act) : Prop := a'.defers = a.defers ∧ s'.n = s.n
theorem Same.trans {s1 s2 s3 : St} {a1 a2 a3 : Act} (h : Same s1 a1 s2 a2) (h' : Same s2 a2 s3 a3) : Same s1 a1 s3 a3 := ⟨h'.1.trans h.1, h'.2.trans h.2⟩
section code
variable {E : Env} {n0 : Nat} {w0 : World} {h0 : Hp}
def CodeOkL (E : Env) (L : Nat → Option (St → LoopSpec)) (n0 : Nat) (w0 : World) (h0 : Hp) (n : Nat) : Prop :=
  ∀ (lv : List Nat) (bid : Nat) (G : Goal) (c : Code) (s : St) (K : Ex → St → Tree) (a : Act) (w : World) (h : Hp) (θ : Th) (Q : Exit → Act → World → Prop), SRel E n0 w0 h0 h θ s a w → (evCodeL E L n lv bid c s K).holds G →
    (∀ e s' a' w' h' θ' G2, agree lv G G2 → SRel E n0 w0 h0 h' θ' s' a' w' → Same s a s' a' → (K e s').holds G2 → Q (exT e) a' w') → c.wp E.P Q a w ∧ ∀ b, c = .loop b → L bid = none → Code.rounds E.P b Q n a w

theorem mem_elem {lv : List Nat} {b : Nat} (h : lv.elem b = false) {l : Nat} (hl : l ∈ lv) : l ≠ b := fun e => by
  subst e
  rw [List.elem_eq_true_of_mem hl] at h; cases h
theorem codeL_ok (ok : EnvOk E) (L : Nat → Option (St → LoopSpec)) : ∀ n, CodeOkL E L n0 w0 h0 n
  | 0 => fun lv bid G c s K a w h θ Q R e hk => e.elim
  | n + 1 => fun lv bid G c s K a w h θ Q R e hk => by
    have ih := codeL_ok ok L n
    have plain : c.wp E.P Q a w → (∀ b, c ≠ .loop b) → c.wp E.P Q a w ∧ ∀ b, c = .loop b → L bid = none → Code.rounds E.P b Q (n + 1) a w := fun h1 h2 => ⟨h1, fun b hb => absurd hb (h2 b)⟩
    have old : (evCode E n c s K).holds G → c.wp E.P Q a w := fun e => (code_ok ok n c s K a w h θ Q R e fun ex s' a' w' h' θ' R' L' e' => hk ex s' a' w' h' θ' G (.refl _ _) R' ⟨L'.d, L'.n⟩ e').1
    cases c
    case seq x y =>
      simp only [evCodeL] at e
      refine plain (wp_seq (ih lv bid G x s _ a w h θ _ R e fun ex s' a' w' h' θ' G2 hG R' hd e' => ?_).1) (fun b hb => by cases hb)
      cases ex with
      | normal => exact (ih lv bid G2 y s' K a' w' h' θ' Q R' e' fun e2 s2 a2 w2 h2 θ2 G3 hG3 R2 hd2 e2' => hk e2 s2 a2 w2 h2 θ2 G3 ⟨hG3.1.trans hG.1, fun l hl => (hG3.2 l hl).trans (hG.2 l hl)⟩ R2 (hd.trans hd2) e2').1
      | exit i => exact hk (.exit i) s' a' w' h' θ' G2 hG R' hd e'
      | ret => exact hk .ret s' a' w' h' θ' G2 hG R' hd e'
    case cond c x y =>
      simp only [evCodeL] at e
      refine plain ?_ (fun b hb => by cases hb)
      have r := opd_rep R.tmps c
      split at e
      · rename_i hq
        rw [hq] at r
        have hv : a.eval c = .bool true := by generalize a.eval c = u at r; cases r; rfl
        exact wp_cond_true hv (ih lv bid G x s K a w h θ Q R e hk).1
      · rename_i hq
        rw [hq] at r
        have hv : a.eval c = .bool false := by generalize a.eval c = u at r; cases r; rfl
        exact wp_cond_false hv (ih lv bid G y s K a w h θ Q R e hk).1
      · rename_i q hq
        rw [hq] at r
        have hv : a.eval c = .bool q := by generalize a.eval c = u at r; cases r; rfl
        refine wp_cond hv ?_
        rcases holds_bif (H := fun t => t.holds G) e with ⟨rfl, e⟩ | ⟨rfl, e⟩
        · exact (ih lv bid G x s K a w h θ Q R e hk).1
        · exact (ih lv bid G y s K a w h θ Q R e hk).1
      · exact e.elim
    case block id body =>
      simp only [evCodeL] at e
      refine plain (wp_block (ih lv id G body s _ a w h θ _ R e fun ex s' a' w' h' θ' G2 hG R' hd e' => ?_).1) (fun b hb => by cases hb)
      cases ex with
      | normal => exact hk .normal s' a' w' h' θ' G2 hG R' hd e'
      | exit i =>
        simp only [exT, Exit.inBlock]
        rcases holds_bif (H := fun t => t.holds G2) e' with ⟨hi, e'⟩ | ⟨hi, e'⟩
        · rw [if_pos (Nat.eq_of_beq_eq_true hi)]
          exact hk .normal s' a' w' h' θ' G2 hG R' hd e'
        · rw [if_neg (fun h => by subst h; rw [Nat.beq_refl] at hi; cases hi)]
          exact hk (.exit i) s' a' w' h' θ' G2 hG R' hd e'
      | ret => exact hk .ret s' a' w' h' θ' G2 hG R' hd e'
    case scope body =>
      simp only [evCodeL] at e
      refine plain (wp_scope_straight (ih lv bid G body s K a w h θ _ R e fun ex s' a' w' h' θ' G2 hG R' hd e' => ?_).1) (fun b hb => by cases hb)
      cases ex <;> exact hk _ s' a' w' h' θ' G2 hG R' hd e'
    case loop body =>
      simp only [evCodeL] at e
      cases hL : L bid with
      | none =>
        rw [hL] at e
        simp only at e
        have hr : Code.rounds E.P body Q (n + 1) a w := by
          rw [rounds_succ]
          refine (ih lv bid G body s _ a w h θ _ R e fun ex s' a' w' h' θ' G2 hG R' hd e' => ?_).1
          cases ex with
          | normal => exact (ih lv bid G2 (.loop body) s' K a' w' h' θ' Q R' e' fun e2 s2 a2 w2 h2 θ2 G3 hG3 R2 hd2 e2' => hk e2 s2 a2 w2 h2 θ2 G3 ⟨hG3.1.trans hG.1, fun l hl => (hG3.2 l hl).trans (hG.2 l hl)⟩ R2 (hd.trans hd2) e2').2 body rfl hL
          | exit i => exact hk (.exit i) s' a' w' h' θ' G2 hG R' hd e'
          | ret => exact hk .ret s' a' w' h' θ' G2 hG R' hd e'
        exact ⟨wp_loop_rounds (n + 1) hr, fun b hb _ => by cases hb; exact hr⟩
      | some S' =>
        rw [hL] at e
        simp only at e
        generalize S' s = S at e
        refine ⟨?_, fun b hb h => by cases h⟩
        cases hlv : lv.elem bid with
        | true => rw [hlv] at e; exact e.elim
        | false =>
          rw [hlv] at e; simp only [cond_false] at e
          split at e
          · rename_i vs bs hc
            obtain ⟨hat, hround⟩ := e
            obtain ⟨x0, rfl, rfl, hinv, _⟩ := hat
            obtain ⟨θ0, R0⟩ := fixN_ok (l := S.nils) R
            obtain ⟨θ1, R1⟩ := canon_ok R0 hc
            rw [fixN_n] at R1
            have key : ∀ (m : Nat) (x : S.σ) (a1 : Act) (w1 : World) (h1 : Hp) (θ1 : Th), S.mu x < m → S.inv x → a1.defers = a.defers → SRel E n0 w0 h0 h1 θ1 (absS S (S.vals x) (S.blks x) s.n) a1 w1 → Code.rounds E.P body Q m a1 w1 := by
              intro m
              induction m with
              | zero => intro x a1 w1 h1 θ1 hm; omega
              | succ m ihm =>
                intro x a1 w1 h1 θ1 hm hx hd1 R1
                rw [rounds_succ]
                refine (ih (bid :: lv) bid _ body _ _ a1 w1 h1 θ1 _ R1 (hround x hx) fun ex s' a' w' h' θ' G2 hG R' hd e' => ?_).1
                have out : ∀ ex, ex ≠ .normal → (K ex s').holds G2 → Q (exT ex) a' w' := fun ex _ e' => hk ex s' a' w' h' θ' G2 ⟨hG.1, fun l hl => (hG.2 l (List.mem_cons_of_mem _ hl)).trans (by
                  funext vs' bs'
                  exact if_neg (mem_elem hlv hl))⟩ R' ⟨hd.1.trans hd1, hd.2⟩ e'
                cases ex with
                | normal =>
                  simp only at e'
                  split at e'
                  · rename_i vs' bs' hc'
                    have e2 : G2.n bid vs' bs' := e'
                    rw [hG.2 bid List.mem_cons_self] at e2
                    simp only [if_true] at e2
                    obtain ⟨y, rfl, rfl, hy, hmu⟩ := e2
                    obtain ⟨θ0, R0⟩ := fixN_ok (l := S.nils) R'
                    obtain ⟨θ2, R2⟩ := canon_ok R0 hc'
                    rw [fixN_n] at R2
                    have hsn : s'.n = s.n := hd.2
                    exact ihm y a' w' h' θ2 (by omega) hy (hd.1.trans hd1) (hsn ▸ R2)
                  · exact e'.elim
                | exit i => exact out (.exit i) (by simp) e'
                | ret => exact out .ret (by simp) e'
            exact wp_loop_rounds (S.mu x0 + 1) (key _ x0 a w h θ1 (by omega) hinv rfl R1)
          · exact e.elim
    all_goals exact plain (old (by simpa only [evCodeL] using e)) (fun b hb => by cases hb)

/-- A function's call comes to what the tree says, loops by what they keep. -/
theorem evFLs_ok (ok : EnvOk E) (L : Nat → Option (St → LoopSpec)) {n : Nat} {f : FuncId} {args : List SV} {Q : SV → Prop} (e : (evFLs E L n f args).ends Q) {h : Hp} {w : World} {us : List Value} (hag : ∀ b o, h b = some o → w.heap[b]? = some o) (hg : GlobOk E h) (ru : RepL h Th0 args us) :
    Calls E.P f us.toArray w fun en w' => ∃ v r h', en = .returned v ∧ Q r ∧ Below w.heap.size w w' ∧ h.le h' ∧ (∀ b o, h' b = some o → w'.heap[b]? = some o) ∧ (∀ b, b < w.heap.size → h' b = h b) ∧ Rep h' Th0 r v := by
  unfold evFLs at e
  split at e
  · rename_i fn hf
    have I : Inv E w.heap.size w h h Th0 (fun _ => none) (fun k => 0 ≤ k) w :=
      ⟨hag, (fun k b e => by cases e), (fun k k' b b' id v v' e => by cases e), fun _ _ => rfl, .refl _ _, rfl, .refl _, fun _ _ => rfl, hg⟩
    unfold evBody at e
    split at e
    · rename_i body hbody
      obtain ⟨hle, e⟩ := holds_need (Closed.holds (Goal.of Q)) e
      have hle : args.length ≤ fn.ntmps := Nat.le_of_ble_eq_true hle
      have hlen : us.length = args.length := repL_length ru
      refine calls_of_wp hf hbody ?_
      refine (codeL_ok ok L n [] 0 (Goal.of Q) body ⟨initT args, fun _ => none, 0, fn.ntmps⟩ _ { tmps := us.toArray ++ Array.replicate (fn.ntmps - us.toArray.size) undef, defers := [] } w h Th0 _ ⟨I, initT_rep _ ru, by simp; omega⟩ e fun ex s' a' w' h' θ' G2 hG R hS eK => ?_).1
      have fin : (match resL E s' fn.results.toList with | some vs => (match liftS s'.M (oneS vs) with | some r => .leaf r | none => .fail) | none => .fail : Tree).holds G2 → a'.defers = [] ∧ ∃ v, (results fn a'.tmps).run E.P w' = .ok v w' ∧ (∃ v1 r h', Ending.returned v = .returned v1 ∧ Q r ∧ Below w.heap.size w w' ∧ h.le h' ∧ (∀ b o, h' b = some o → w'.heap[b]? = some o) ∧ (∀ b, b < w.heap.size → h' b = h b) ∧ Rep h' Th0 r v1) := fun eK => by
        split at eK
        · rename_i vs hr
          obtain ⟨u, h1, h2⟩ := result_ok R.inv R.tmps hr
          split at eK
          · rename_i r' hl
            obtain ⟨h3, hle3, I2⟩ := R.inv.freezeM (keysS (oneS vs))
            have hq : Q r' := by
              have : G2.q r' := eK
              rw [hG.1] at this
              exact this
            exact ⟨hS.1, u, h1, u, r', h3, rfl, hq, I2.below, I2.hle, I2.agree, I2.hold, liftS_rep hl (h2.mono hle3 (.refl _)) I2.lies⟩
          · exact eK.elim
        · exact eK.elim
      cases ex with
      | normal => exact fin eK
      | ret => exact fin eK
      | exit i => exact eK.elim
    · exact e.elim
  · exact e.elim
theorem evFL_ok (ok : EnvOk E) (L : Nat → Option LoopSpec) {n : Nat} {f : FuncId} {args : List SV} {Q : SV → Prop} (e : (evFL E L n f args).ends Q) {h : Hp} {w : World} {us : List Value} (hag : ∀ b o, h b = some o → w.heap[b]? = some o) (hg : GlobOk E h) (ru : RepL h Th0 args us) :
    Calls E.P f us.toArray w fun en w' => ∃ v r h', en = .returned v ∧ Q r ∧ Below w.heap.size w w' ∧ h.le h' ∧ (∀ b o, h' b = some o → w'.heap[b]? = some o) ∧ (∀ b, b < w.heap.size → h' b = h b) ∧ Rep h' Th0 r v := evFLs_ok ok _ e hag hg ru
theorem spec_byL (ok : EnvOk E) (L : List SV → Nat → Option LoopSpec) {n : Nat} {f : FuncId} {α : Type} {run : List SV → Option (Bool × α)} {enc : α → SV}
    (e : ∀ svs x, run svs = some (true, x) → okSL svs → (evFL E (L svs) n f svs).ends fun r => unb r = unb (enc x)) : SpecOk E f (mkSpec α run enc) :=
  fun svs x hx h w us hag hg ru => (evFL_ok ok (L svs) (e svs x hx (repL_ok ru)) hag hg ru).mono fun en w' ⟨v, r, h', q1, q2, q4, q5, q6, q7, q8⟩ =>
    have q9 : Rep h' Th0 (enc x) v := unb_rep.1 (q2 ▸ unb_rep.2 q8)
    ⟨v, h', q1, q4, q5, q6, q7, q9, rep_ok q9⟩
end code
end Go.Proofs.YtchljgmcempedaaGreatDoor
