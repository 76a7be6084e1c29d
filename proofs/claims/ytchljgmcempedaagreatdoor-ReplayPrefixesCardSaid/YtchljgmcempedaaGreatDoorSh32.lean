/- Functions that are ranged over: sound (nothing is claimed here). -/
import Derived.Test.YtchljgmcempedaaGreatDoorSh31
set_option linter.unusedVariables false
set_option linter.unusedSimpArgs false
namespace Go.Proofs.YtchljgmcempedaaGreatDoor
open Go Go.RowKit

section drop
variable {E : Env} {n0 : Nat} {w0 : World} {h0 h : Hp} {θ : Th} {M : Mem} {Fr : Nat → Prop} {w : World}
theorem Mem.del_some {M : Mem} {k j : Nat} {b : Blk} (e : M.del k j = some b) : j ≠ k ∧ M j = some b := by
  unfold Mem.del at e
  cases hb : Nat.beq j k with
  | true => rw [hb] at e; cases e
  | false =>
    rw [hb] at e
    refine ⟨fun q => ?_, e⟩
    subst q; rw [Nat.beq_refl] at hb; cases hb
/-- A live block is given up; what lies there may turn. -/
theorem Inv.drop (I : Inv E n0 w0 h0 h θ M Fr w) {k : Nat} {b : Blk} {v : Value} {id : Nat} (e : M k = some b) (l : b.live) (et : θ k = some (v, some id)) {w' : World}
    (hw : Below n0 w w') (hother : ∀ i, i ≠ id → w'.heap[i]? = w.heap[i]?) : Inv E n0 w0 h0 h θ (M.del k) Fr w' := by
  obtain ⟨o1, o2, o3⟩ := I.own e et l
  refine ⟨fun i o ei => ?_, fun j c ej => ?_, fun j j' c c' i u u' hj hj' lc lc' ej ej' => ?_, I.fresh, I.below.trans hw, I.n0le, I.hle, I.hold, I.glob⟩
  · rw [hother i (fun hi => by rw [hi, o2] at ei; cases ei)]; exact I.agree i o ei
  · obtain ⟨hj, ej⟩ := Mem.del_some ej
    obtain ⟨hd, e1, r⟩ := I.blk j c ej
    refine ⟨hd, e1, r.later (Hp.le.refl _) (Th.le.refl _) fun u i hu nf => ⟨hother i fun hi => ?_, rfl⟩⟩
    subst hu; subst hi
    exact hj (I.inj j k c b i u v ej e nf l e1 et)
  · exact I.inj j j' c c' i u u' (Mem.del_some hj).2 (Mem.del_some hj').2 lc lc' ej ej'
end drop

section code
variable {E : Env} {n0 : Nat} {w0 : World} {h0 : Hp}
def CodeOkI (E : Env) (L : Nat → Option (St → LoopSpec)) (n0 : Nat) (w0 : World) (h0 : Hp) (n : Nat) : Prop :=
  ∀ (lv : List Nat) (bid : Nat) (G : Goal) (c : Code) (s : St) (D : List Nat) (ids : List Hd) (K : Ex → St → List Nat → Tree) (a : Act) (w : World) (h : Hp) (θ : Th) (Q : Exit → Act → World → Prop), SRel E n0 w0 h0 h θ s a w → DRel θ D ids → (evCodeI E L n lv bid c s D K).holds G →
    (∀ e s' D' a' w' h' θ' G2, agree lv G G2 → SRel E n0 w0 h0 h' θ' s' a' w' → DRel θ' D' ids → Same s a s' a' → (K e s' D').holds G2 → Q (exT e) a' w') → c.wp E.P Q a w
theorem agree.trans {lv : List Nat} {G G2 G3 : Goal} (h : agree lv G G2) (h' : agree lv G2 G3) : agree lv G G3 := ⟨h'.1.trans h.1, fun l hl => (h'.2 l hl).trans (h.2 l hl)⟩
theorem codeI_ok (ok : EnvOk E) (L : Nat → Option (St → LoopSpec)) : ∀ n, CodeOkI E L n0 w0 h0 n
  | 0 => fun lv bid G c s D ids K a w h θ Q R d e hk => e.elim
  | n + 1 => fun lv bid G c s D ids K a w h θ Q R d e hk => by
    have ih := codeI_ok ok L n
    cases c <;> simp only [evCodeI] at e <;> first | exact e.elim | skip
    case skip => exact wp_skip (hk .normal s D a w h θ G (.refl _ _) R d ⟨rfl, rfl⟩ e)
    case label l => exact wp_label (hk .normal s D a w h θ G (.refl _ _) R d ⟨rfl, rfl⟩ e)
    case exit id => exact wp_exit (hk (.exit id) s D a w h θ G (.refl _ _) R d ⟨rfl, rfl⟩ e)
    case ret => exact wp_ret (hk .ret s D a w h θ G (.refl _ _) R d ⟨rfl, rfl⟩ e)
    case region id ops draw =>
      unfold evRegion at e
      rcases holds_bif (H := fun t => t.holds G) e with ⟨rfl, e⟩ | ⟨rfl, e⟩
      · obtain ⟨hd, e⟩ := holds_need (Closed.holds G) e
        refine wpIn_wide.1 (wpIn_region_any (F := FW none) (n := 0) ok.mixed ?_)
        obtain ⟨h2, hle2, I2⟩ := R.inv.freezeM (frzL ops.toList (beforeL [] ops.toList) s.T s.M 0 ops.toList)
        refine outer (r := none) ok (Closed.holds G) (hooksI_ok ok n G) hd (h1 := h) (θ1 := θ) (s1 := s) (a1 := a) (fun s' a' w' h' θ' R' L' e' => hk .normal s' D a' w' h' θ' G (.refl _ _) R' (d.mono L'.ht) ⟨L'.d, L'.n⟩ e') (Kp := noK) (fun v u M' κ' s' a' w' h' θ' _ _ _ _ e' => False.elim e') ops.size 0 _ (s.pre ops.toList (beforeL [] ops.toList) 0 ops.toList) a _ h2 θ (Nat.zero_le _) (Lst.init ops) (Nat.le_refl _) ⟨I2.drawn _, R.tmps.mono hle2 (.refl _), R.size⟩ ⟨hle2, .refl _, Nat.le_refl _, rfl, rfl⟩ (storesL ops.toList (beforeL [] ops.toList) s.T 0 s.κ 0 ops.toList) ?_
        exact e
      · refine wpIn_wide.1 (wpIn_region (F := FW none) (n := 0) ?_)
        have := evOps_ok (r := none) ok (Closed.holds G) (hooksI_ok ok n G) (Q := Q) ops.toList 0 (by simp) R e (fun s' a' w' h' θ' R' hh ht hκ hn hd e' => hk .normal s' D a' w' h' θ' G (.refl _ _) R' (d.mono ht) ⟨hd, hn⟩ e') (Kp := noK) (fun v u M' κ' a' w' h' θ' _ _ _ _ _ _ e' => False.elim e')
        rw [List.range_eq_range']
        simpa using this
    case seq x y =>
      refine wp_seq (ih lv bid G x s D ids _ a w h θ _ R d e fun ex s' D' a' w' h' θ' G2 hG R' d' hs e' => ?_)
      cases ex with
      | normal => exact ih lv bid G2 y s' D' ids K a' w' h' θ' Q R' d' e' fun e2 s2 D2 a2 w2 h2 θ2 G3 hG3 R2 d2 hs2 e2' => hk e2 s2 D2 a2 w2 h2 θ2 G3 (hG.trans hG3) R2 d2 (hs.trans hs2) e2'
      | exit i => exact hk (.exit i) s' D' a' w' h' θ' G2 hG R' d' hs e'
      | ret => exact hk .ret s' D' a' w' h' θ' G2 hG R' d' hs e'
    case cond c x y =>
      have r := opd_rep R.tmps c
      split at e
      · rename_i hq
        rw [hq] at r
        have hv : a.eval c = .bool true := by generalize a.eval c = u at r; cases r; rfl
        exact wp_cond_true hv (ih lv bid G x s D ids K a w h θ Q R d e hk)
      · rename_i hq
        rw [hq] at r
        have hv : a.eval c = .bool false := by generalize a.eval c = u at r; cases r; rfl
        exact wp_cond_false hv (ih lv bid G y s D ids K a w h θ Q R d e hk)
      · rename_i q hq
        rw [hq] at r
        have hv : a.eval c = .bool q := by generalize a.eval c = u at r; cases r; rfl
        refine wp_cond hv ?_
        rcases holds_bif (H := fun t => t.holds G) e with ⟨rfl, e⟩ | ⟨rfl, e⟩
        · exact ih lv bid G x s D ids K a w h θ Q R d e hk
        · exact ih lv bid G y s D ids K a w h θ Q R d e hk
      · exact e.elim
    case block id body =>
      refine wp_block (ih lv id G body s D ids _ a w h θ _ R d e fun ex s' D' a' w' h' θ' G2 hG R' d' hs e' => ?_)
      cases ex with
      | normal => exact hk .normal s' D' a' w' h' θ' G2 hG R' d' hs e'
      | exit i =>
        simp only [exT, Exit.inBlock]
        rcases holds_bif (H := fun t => t.holds G2) e' with ⟨hi, e'⟩ | ⟨hi, e'⟩
        · rw [if_pos (Nat.eq_of_beq_eq_true hi)]
          exact hk .normal s' D' a' w' h' θ' G2 hG R' d' hs e'
        · rw [if_neg (fun h => by subst h; rw [Nat.beq_refl] at hi; cases hi)]
          exact hk (.exit i) s' D' a' w' h' θ' G2 hG R' d' hs e'
      | ret => exact hk .ret s' D' a' w' h' θ' G2 hG R' d' hs e'
    case scope body =>
      refine wp_scope_straight (ih lv bid G body s D ids K a w h θ _ R d e fun ex s' D' a' w' h' θ' G2 hG R' d' hs e' => ?_)
      cases ex <;> exact hk _ s' D' a' w' h' θ' G2 hG R' d' hs e'
    case loop body =>
      split at e
      · rename_i S' hL
        generalize S' s = S at e
        cases hlv : lv.elem bid with
        | true => rw [hlv] at e; exact e.elim
        | false =>
          rw [hlv] at e; simp only [cond_false] at e
          split at e
          · rename_i vs bs hc
            obtain ⟨hat, hround⟩ := e
            obtain ⟨x0, rfl, rfl, hinv, _⟩ := hat
            obtain ⟨θ1, R1, d1⟩ := canonD_ok R d hc
            have key : ∀ (m : Nat) (x : S.σ) (a1 : Act) (w1 : World) (h1 : Hp) (θ1 : Th), S.mu x < m → S.inv x → a1.defers = a.defers → SRel E n0 w0 h0 h1 θ1 (absD S (S.vals x) (S.blks x) D.length s.n) a1 w1 → DRel θ1 (shD S.keys.length D.length) ids → Code.rounds E.P body Q m a1 w1 := by
              intro m
              induction m with
              | zero => intro x a1 w1 h1 θ1 hm; omega
              | succ m ihm =>
                intro x a1 w1 h1 θ1 hm hx hd1 R1 d1
                rw [rounds_succ]
                refine ih (bid :: lv) bid _ body _ _ ids _ a1 w1 h1 θ1 _ R1 d1 (hround x hx) fun ex s' D' a' w' h' θ' G2 hG R' d' hd e' => ?_
                have out : ∀ ex, ex ≠ .normal → (K ex s' D').holds G2 → Q (exT ex) a' w' := fun ex _ e' => hk ex s' D' a' w' h' θ' G2 ⟨hG.1, fun l hl => (hG.2 l (List.mem_cons_of_mem _ hl)).trans (by
                  funext vs' bs'
                  exact if_neg (mem_elem hlv hl))⟩ R' d' ⟨hd.1.trans hd1, hd.2⟩ e'
                cases ex with
                | normal =>
                  simp only at e'
                  split at e'
                  · rename_i vs' bs' hc'
                    have e2 : G2.n bid vs' bs' := e'
                    rw [hG.2 bid List.mem_cons_self] at e2
                    simp only [if_true] at e2
                    obtain ⟨y, rfl, rfl, hy, hmu⟩ := e2
                    obtain ⟨θ2, R2, d2⟩ := canonD_ok R' d' hc'
                    have hsn : s'.n = s.n := hd.2
                    have hdl : D'.length = D.length := d'.1.trans d.1.symm
                    rw [hdl, hsn] at R2
                    rw [hdl] at d2
                    exact ihm y a' w' h' θ2 (by omega) hy (hd.1.trans hd1) R2 d2
                  · exact e'.elim
                | exit i => exact out (.exit i) (by simp) e'
                | ret => exact out .ret (by simp) e'
            exact wp_loop_rounds (S.mu x0 + 1) (key _ x0 a w h θ1 (by omega) hinv rfl R1 d1)
          · exact e.elim
      · exact e.elim

theorem bodyI_ok (ok : EnvOk E) (L : Nat → Option (St → LoopSpec)) {n : Nat} {G : Goal} {f : FuncId} {fn : Func} (hf : E.P.funcs[f]? = some fn) {args : List SV} {M : Mem} {κ : Nat} {D : List Nat} {ids : List Hd} {K : SV → St → List Nat → Tree} (e : (evBodyI E L fn n args M κ D K).holds G)
    {h : Hp} {θ : Th} {w : World} {us : List Value} (I : Inv E n0 w0 h0 h θ M (fun k => κ ≤ k) w) (ru : RepL h θ args us) (d : DRel θ D ids) :
    Calls E.P f us.toArray w fun en w' => ∃ v r s' D' h' θ' G2, en = .returned v ∧ agree [] G G2 ∧ (K r s' D').holds G2 ∧ Inv E n0 w0 h0 h' θ' s'.M (fun k => s'.κ ≤ k) w' ∧ DRel θ' D' ids := by
  unfold evBodyI at e
  split at e
  · rename_i body hbody
    obtain ⟨hle, e⟩ := holds_need (Closed.holds G) e
    have hle : args.length ≤ fn.ntmps := Nat.le_of_ble_eq_true hle
    have hlen : us.length = args.length := (repL_length ru)
    refine calls_of_wp hf hbody ?_
    refine codeI_ok ok L n [] 0 G body ⟨initT args, M, κ, fn.ntmps⟩ D ids _ { tmps := us.toArray ++ Array.replicate (fn.ntmps - us.toArray.size) undef, defers := [] } w h θ _ ⟨I, initT_rep _ ru, by simp; omega⟩ d e fun ex s' D' a' w' h' θ' G2 hG R' d' hs eK => ?_
    have fin : (match resL E s' fn.results.toList with | some vs => K (oneS vs) s' D' | none => .fail : Tree).holds G2 → a'.defers = [] ∧ ∃ v, (results fn a'.tmps).run E.P w' = .ok v w' ∧ (∃ v1 r s' D' h' θ' G2, Ending.returned v = .returned v1 ∧ agree [] G G2 ∧ (K r s' D').holds G2 ∧ Inv E n0 w0 h0 h' θ' s'.M (fun k => s'.κ ≤ k) w' ∧ DRel θ' D' ids) := fun eK => by
      split at eK
      · rename_i vs hr
        obtain ⟨u, h1, h2⟩ := result_ok R'.inv R'.tmps hr
        exact ⟨hs.1, u, h1, u, _, s', D', h', θ', G2, rfl, hG, eK, R'.inv, d'⟩
      · exact eK.elim
    cases ex with
    | normal => exact fin eK
    | ret => exact fin eK
    | exit i => exact eK.elim
  · exact e.elim
end code
end Go.Proofs.YtchljgmcempedaaGreatDoor
