/- Operations one behind the other do what the evaluator says (nothing is claimed here). -/
import Derived.Test.YtchljgmcempedaaGreatDoorSh14
import Derived.OrdersIn
import Derived.LoopNIn
import Derived.RangeFuncIn
import Derived.TacticsIn
import Derived.DefersIn
set_option linter.unusedVariables false
set_option linter.unusedSimpArgs false
namespace Go.Proofs.YtchljgmcempedaaGreatDoor
open Go Go.RowKit

/-- what is asked of a tree: of its ends; of a round's end, by the loop's level -/
structure Goal where
  q : SV → Prop
  n : Nat → List SV → List Blk → Prop
def Goal.of (q : SV → Prop) : Goal := ⟨q, fun _ _ _ => False⟩
def LoopSpec.at (L : LoopSpec) (P : L.σ → Prop) (vs : List SV) (bs : List Blk) : Prop := ∃ x, vs = L.vals x ∧ bs = L.blks x ∧ L.inv x ∧ P x
def Tree.holds : Tree → Goal → Prop
  | .leaf r, G => G.q r
  | .fail, _ => False
  | .letv wf x k, G => ∀ a, a = x → wf a → (k a).holds G
  | .loop lvl L vs bs round, G => L.at (fun _ => True) vs bs ∧ ∀ x, L.inv x → (round x).holds ⟨G.q, fun l vs' bs' => if l = lvl then L.at (fun y => L.mu y < L.mu x) vs' bs' else G.n l vs' bs'⟩
  | .next lvl vs bs, G => G.n lvl vs bs
  | .fork a b, G => a.holds G ∧ b.holds G
  | .triv, _ => True
/-- what is asked of trees, closed under how they branch -/
structure Closed (H : Tree → Prop) : Prop where
  fail : ¬ H .fail
  letv : ∀ {α : Type} {wf : α → Prop} {x : α} {k : α → Tree}, H (.letv wf x k) → ∀ a, a = x → wf a → H (k a)
  fork : ∀ {a b : Tree}, H (.fork a b) → H a ∧ H b
theorem Closed.holds (G : Goal) : Closed fun t => t.holds G := ⟨fun h => h, fun h => h, fun h => h⟩
/-- the fence of nothing; in a round of loop l -/
def FW (r : Option Nat) : Fence := { Fence.wide with round := r }
def Tree.ends (t : Tree) (q : SV → Prop) : Prop := t.holds (.of q)

/-- A contract: what a call with these arguments comes to. -/
def SpecOk (E : Env) (f : FuncId) (S : Spec) : Prop :=
  ∀ svs x, S.run svs = some (true, x) → ∀ (h : Hp) (w : World) (us : List Value), (∀ b o, h b = some o → w.heap[b]? = some o) → GlobOk E h → RepL h Th0 svs us →
    Calls E.P f us.toArray w fun e w' => ∃ v h', e = .returned v ∧ Below w.heap.size w w' ∧ h.le h' ∧ (∀ b o, h' b = some o → w'.heap[b]? = some o) ∧ (∀ b, b < w.heap.size → h' b = h b) ∧ Rep h' Th0 (S.enc x) v ∧ S.wf x
structure EnvOk (E : Env) : Prop where
  mixed : E.P.follows .mixedOrders = true
  spec : ∀ f S, E.spec f = some S → SpecOk E f S
  callee : ∀ f, E.callee f = true → ∀ args w, (callFunc f args).run E.P w = .ok (.enter f args) w

section seq
variable {E : Env} {n0 : Nat} {w0 : World} {h0 h : Hp} {θ : Th} {M : Mem} {Fr : Nat → Prop} {κ : Nat} {w : World} {H : Tree → Prop}

theorem holds_bif {q : Bool} {a b : Tree} (e : H (bif q then a else b)) : (q = true ∧ H a) ∨ (q = false ∧ H b) := by
  cases q with
  | true => exact .inl ⟨rfl, e⟩
  | false => exact .inr ⟨rfl, e⟩
theorem holds_need (C : Closed H) {q : Bool} {a : Tree} (e : H (bif q then a else .fail)) : q = true ∧ H a := by
  cases q with
  | true => exact ⟨rfl, e⟩
  | false => exact (C.fail e).elim

/-- the value that is put -/
def nb : SV → SV
  | .v (.bool q) => .b q
  | v => v
def putT (T : Tmps) (d : Option Nat) (v : SV) : Tmps := match d with
  | none => T
  | some d => T.put (some d) (nb v)
theorem nb_rep {v : SV} {u : Value} (r : Rep h θ v u) : Rep h θ (nb v) u := by
  unfold nb; split
  · cases r; exact .b _
  · exact r
theorem putK_holds (C : Closed H) {n : Nat} {T : Tmps} {d : Option Nat} {v : SV} {K : Tmps → Tree} (e : H (putK n T d v K)) : H (K (putT T d v)) ∧ ∀ d', d = some d' → d' < n := by
  unfold putK at e
  split at e
  · exact ⟨e, by simp⟩
  · rename_i d q
    obtain ⟨hd, e⟩ := holds_need C e
    refine ⟨?_, fun d' h => by cases h; exact blt_lt hd⟩
    cases q with
    | true => exact e
    | false => exact e
  · rename_i d hv
    obtain ⟨hd, e⟩ := holds_need C e
    refine ⟨?_, fun d' h => by cases h; exact blt_lt hd⟩
    have : nb v = v := by
      unfold nb; split
      · exact absurd rfl (hv _)
      · rfl
    simpa [putT, this] using e
theorem put_rep {T : Tmps} {a : Act} {d : Option Nat} {v : SV} {u : Value} (hT : RepT h θ T a.tmps) (r : Rep h θ v u) (hd : ∀ d', d = some d' → d' < a.tmps.size) : RepT h θ (putT T d v) (a.put d u).tmps := by
  intro t
  cases d with
  | none => exact hT t
  | some d =>
    have hlt := hd d rfl
    simp only [putT, Tmps.put, Act.put]
    by_cases ht : t = d
    · subst ht
      rw [Nat.beq_refl]
      simp only [cond_true]
      rw [Array.getD_eq_getD_getElem?, Array.getElem?_setIfInBounds]
      simp [hlt]
      exact nb_rep r
    · rw [beq_ne ht]
      simp only [cond_false]
      rw [Array.getD_eq_getD_getElem?, Array.getElem?_setIfInBounds]
      have : ¬ d = t := fun h => ht h.symm
      simp only [this, if_false]
      rw [← Array.getD_eq_getD_getElem?]
      exact hT t
theorem RepT.mono {h' : Hp} {θ' : Th} {T : Tmps} {a : Array Value} (r : RepT h θ T a) (hh : h.le h') (ht : θ.le θ') : RepT h' θ' T a := fun t => (r t).mono hh ht
theorem put_size (a : Act) (d : Option Nat) (u : Value) : (a.put d u).tmps.size = a.tmps.size := by cases d <;> simp [Act.put]
theorem put_defers (a : Act) (d : Option Nat) (u : Value) : (a.put d u).defers = a.defers := by cases d <;> rfl
theorem cps_holds (C : Closed H) {eff : Bool} {K : SV → Mem → Tree} : ∀ {t : OpT}, H (t.cps eff M κ K) → ∃ out, t.eval = some out ∧ H (K out.v (out.mem M κ)) ∧ (eff = false → ∃ v b, out = .val v b)
  | .val v b, e => ⟨.val v b, rfl, e, fun _ => ⟨v, b, rfl⟩⟩
  | .eff v M', e => by
    simp only [OpT.cps] at e
    obtain ⟨he, e⟩ := holds_need C e
    exact ⟨.eff v M', rfl, e, fun h => by rw [he] at h; cases h⟩
  | .need q t, e => by
    simp only [OpT.cps] at e
    obtain ⟨rfl, e⟩ := holds_need C e
    obtain ⟨out, h1, h2⟩ := cps_holds C e
    exact ⟨out, h1, h2⟩
  | .split q a b, e => by
    simp only [OpT.cps] at e
    rcases holds_bif e with ⟨rfl, e⟩ | ⟨rfl, e⟩
    · obtain ⟨out, h1, h2⟩ := cps_holds C e
      exact ⟨out, h1, h2⟩
    · obtain ⟨out, h1, h2⟩ := cps_holds C e
      exact ⟨out, h1, h2⟩
  | .fail, e => (C.fail e).elim

/-- the state that stands for the machine's -/
structure SRel (E : Env) (n0 : Nat) (w0 : World) (h0 h : Hp) (θ : Th) (s : St) (a : Act) (w : World) : Prop where
  inv : Inv E n0 w0 h0 h θ s.M (fun k => s.κ ≤ k) w
  tmps : RepT h θ s.T a.tmps
  size : a.tmps.size = s.n

/-- what a call comes to: by a return; by a panic -/
def CallPost (E : Env) (n0 : Nat) (w0 : World) (h0 h : Hp) (θ : Th) (κ : Nat) (R Rp : SV → Mem → Nat → Prop) (e : Ending) (w' : World) : Prop :=
  ∃ v r M' κ' h' θ', ((e = .returned v ∧ R r M' κ') ∨ (e = .panicked [{ v, recovered := false }] ∧ Rp r M' κ')) ∧ h.le h' ∧ θ.le θ' ∧ κ ≤ κ' ∧ Inv E n0 w0 h0 h' θ' M' (fun k => κ' ≤ k) w' ∧ Rep h' θ' r v
structure HooksOk (E : Env) (n0 : Nat) (w0 : World) (h0 : Hp) (H : Tree → Prop) (hk : Hooks) : Prop where
  call : ∀ f args M κ K Kp, H (hk.call f args M κ K Kp) → ∀ (h : Hp) (θ : Th) (w : World) (us : List Value), Inv E n0 w0 h0 h θ M (fun k => κ ≤ k) w → RepL h θ args us →
    Calls E.P f us.toArray w (CallPost E n0 w0 h0 h θ κ (fun r M' κ' => H (K r M' κ')) (fun r M' κ' => H (Kp r M' κ')))
  yld : ∀ key args M κ K Kp, H (hk.yld key args M κ K Kp) → ∀ (h : Hp) (θ : Th) (w : World) (us : List Value) (id : Nat) (ts : Array Value), Inv E n0 w0 h0 h θ M (fun k => κ ≤ k) w → RepL h θ args us → θ key = some (.func (.yield id) ts #[], some id) →
    ∃ f tmps as bd, (Instr.yield id us.toArray).run E.P w = .ok (.round id f tmps as bd) w ∧
      RoundIn Fence.wide 0 E.P id f tmps as bd w (CallPost E n0 w0 h0 h θ κ (fun r M' κ' => H (K r M' κ')) (fun r M' κ' => H (Kp r M' κ')))

theorem flat_rep {h' : Hp} {θ' : Th} : ∀ {cs : List SV} {vs : List Value}, flat1 cs = true → RepC h θ cs vs → RepC h' θ' cs vs
  | [], vs, q, r => by rw [r.nil_inv]; exact .nil
  | s :: ss, vs, q, r => by
    rcases r.inv with ⟨v, vs', rfl, c, rv, rs⟩ | ⟨k, n, l, vs', rfl, rfl, hl, hk, rs⟩
    · cases rv <;> simp only [flat1] at q <;> first | (cases q; done) | skip
      · exact .cell _ _ _ _ c (.v _ ‹_›) (flat_rep q rs)
      · exact .cell _ _ _ _ c (.b _) (flat_rep q rs)
    · exact .arr _ _ _ _ _ hl hk (flat_rep (by simpa [flat1] using q) rs)
theorem flatA_rep {h' : Hp} {θ' : Th} {s : SV} {v : Value} (q : flatA s = true) (r : Rep h θ s v) : Rep h' θ' s v := by
  cases r <;> simp only [flatA] at q <;> first | (cases q; done) | skip
  · exact .v _ ‹_›
  · exact .b _
  · exact .agg _ _ (flat_rep q ‹_›)
theorem flatL_rep {h' : Hp} {θ' : Th} : ∀ {ss : List SV} {vs : List Value}, flatL ss = true → RepL h θ ss vs → RepL h' θ' ss vs
  | [], vs, q, r => by rw [r.nil_inv]; exact .nil
  | s :: ss, vs, q, r => by
    obtain ⟨v, vs', rfl, r1, r2⟩ := r.cons_inv
    simp only [flatL, Bool.and_eq_true] at q
    exact .cons _ _ _ _ (flatA_rep q.1 r1) (flatL_rep q.2 r2)
theorem flatS_rep {h' : Hp} {θ' : Th} {s : SV} {v : Value} (q : flatS s = true) (r : Rep h θ s v) : Rep h' θ' s v := by
  cases s with
  | tup vs => cases r; exact .tup _ _ (flatL_rep (by simpa [flatS] using q) ‹_›)
  | _ => exact flatA_rep (by simpa [flatS] using q) r

/-- a call by its contract -/
theorem spec_ok (ok : EnvOk E) (I : Inv E n0 w0 h0 h θ M Fr w) {f : FuncId} {S : Spec} {args args' : List SV} {us : List Value} {x : S.α} (hS : E.spec f = some S) (hl : liftL M args = some args') (hr : S.run args' = some (true, x)) (ru : RepL h θ args us) :
    Calls E.P f us.toArray w fun e w' => ∃ v, e = .returned v ∧ S.wf x ∧
      ((∃ h', h.le h' ∧ Inv E n0 w0 h0 h' θ (freezeM M (keysL args)) Fr w' ∧ Rep h' θ (S.enc x) v) ∧ (flatS (S.enc x) = true → ∃ h', h.le h' ∧ Inv E n0 w0 h0 h' θ M Fr w' ∧ Rep h' θ (S.enc x) v)) := by
  obtain ⟨h1, hle, I1⟩ := I.freezeM (keysL args)
  have rl : RepL h1 Th0 args' us := (liftL_rep hl (by
    have mono : ∀ {ss : List SV} {vs : List Value}, RepL h θ ss vs → RepL h1 θ ss vs := fun r => r.mono hle (.refl _)
    exact mono ru) I1.lies).kf (liftL_kf hl)
  have hg : GlobOk E h1 := fun g cs e => by
    obtain ⟨vs, ty, fz, e1, r⟩ := I1.glob g cs e
    exact ⟨vs, ty, fz, I1.hle _ _ e1, r.mono I1.hle (.refl _)⟩
  refine (ok.spec f S hS args' x hr h1 w us I1.agree hg rl).mono fun e w' ⟨v, h2, he, hb, hle2, hag, hsame, rv, wf⟩ => ⟨v, he, wf, ⟨h2, hle.trans hle2, I1.call hb hle2 hag hsame, rv.mono (.refl _) (Th0.le θ)⟩, fun hflat => ?_⟩
  refine ⟨fun b => if b < w.heap.size then h b else h2 b, fun b o e => ?_, I.call hb (fun b o e => ?_) (fun b o e => ?_) (fun b hb => if_pos hb), flatS_rep hflat rv⟩
  · simp only [I.old_lt e, if_true]; exact e
  · simp only [I.old_lt e, if_true]; exact e
  · by_cases hlt : b < w.heap.size
    · simp only [hlt, if_true] at e
      rw [hb.block b hlt]; exact I.agree b o e
    · simp only [hlt, if_false] at e; exact hag b o e
/-- what is lifted for a call that only looks -/
theorem lies_all (I : Inv E n0 w0 h0 h θ M Fr w) (ks : List Nat) : Lies (fun b => w.heap[b]?) θ M ks := fun k _ τ l hM => by
  have hle : h.le (fun b => w.heap[b]?) := fun b o e => I.agree b o e
  rcases hM with ⟨ty, hM⟩ | hM
  · obtain ⟨hd, e1, r⟩ := I.blk k _ hM
    refine ⟨hd, e1, ?_⟩
    rcases r with ⟨rfl, a, rfl⟩ | ⟨id', c', vs, rest, ty', rfl, _, _, hh, rc, _, hc, hm⟩
    · exact .rdnil _ _ _
    · refine Rep.of_row (c := c') (rc.mono hle (.refl _)) hc hm fun i v hv => ?_
      have hl := (List.getElem?_eq_some_iff.1 hv).1
      simp [Hp.cell, hh, List.getElem?_append_left hl, hv]
  · obtain ⟨hd, e1, r⟩ := I.blk k _ hM
    exact ⟨hd, e1, r.mono hle (.refl _)⟩
theorem liftP_rep (I : Inv E n0 w0 h0 h θ M Fr w) {s s' : SV} {v : Value} (e : liftP M s = some s') (r : Rep h θ s v) : Rep (fun b => w.heap[b]?) Th0 s' v := by
  have hle : h.le (fun b => w.heap[b]?) := fun b o e => I.agree b o e
  unfold liftP at e
  split at e
  · rename_i k off ix n
    split at e
    · rename_i cs ty hM
      obtain ⟨cs', h1, rfl⟩ := Option.map_eq_some_iff.1 e
      cases r with
      | loc _ _ _ _ id et hi =>
        obtain ⟨hd, e1, rb⟩ := I.blk k _ hM
        obtain ⟨id', vs, ty', rfl, _, _, hh, rc⟩ := rb
        rw [et] at e1
        simp only [Option.some.injEq, Prod.mk.injEq, Value.pointer.injEq, Addr.mk.injEq] at e1
        obtain ⟨-, rfl⟩ := e1
        exact .pp cs' off ix n id vs ty' _ hh ((lift1L_rep h1 (rc.mono hle (.refl _)) (lies_all I _)).kf (lift1L_kf h1)) hi
    · cases e
  · exact (liftA_rep e (r.mono hle (.refl _)) (lies_all I _)).kfA (liftA_kf e)
theorem liftPL_rep (I : Inv E n0 w0 h0 h θ M Fr w) : ∀ {ss ss' : List SV} {vs : List Value}, liftPL M ss = some ss' → RepL h θ ss vs → RepL (fun b => w.heap[b]?) Th0 ss' vs
  | [], ss', vs, e, r => by cases e; rw [r.nil_inv]; exact .nil
  | s :: ss, ss', vs, e, r => by
    simp only [liftPL] at e
    obtain ⟨s', h1, h2⟩ := Option.bind_eq_some_iff.1 e
    obtain ⟨r', h3, rfl⟩ := Option.map_eq_some_iff.1 h2
    obtain ⟨v, vs', rfl, r1, r2⟩ := r.cons_inv
    exact .cons _ _ _ _ (liftP_rep I h1 r1) (liftPL_rep I h3 r2)
/-- a call by its contract, of a function that only looks -/
theorem spec_look (ok : EnvOk E) (I : Inv E n0 w0 h0 h θ M Fr w) {f : FuncId} {S : Spec} {args args' : List SV} {us : List Value} {x : S.α} (hS : E.spec f = some S) (hl : liftPL M args = some args') (hr : S.run args' = some (true, x)) (ru : RepL h θ args us) :
    Calls E.P f us.toArray w fun e w' => ∃ v, e = .returned v ∧ S.wf x ∧ (flatS (S.enc x) = true → ∃ h', h.le h' ∧ Inv E n0 w0 h0 h' θ M Fr w' ∧ Rep h' θ (S.enc x) v) := by
  have hg : GlobOk E (fun b => w.heap[b]?) := fun g cs e => by
    obtain ⟨vs, ty, fz, e1, r⟩ := I.glob g cs e
    have hle : h0.le (fun b => w.heap[b]?) := fun b o e => I.agree b o (I.hle _ _ e)
    exact ⟨vs, ty, fz, I.agree _ _ (I.hle _ _ e1), r.mono hle (.refl _)⟩
  refine (ok.spec f S hS args' x hr _ w us (fun b o e => e) hg (liftPL_rep I hl ru)).mono fun e w' ⟨v, h2, he, hb, hle2, hag, hsame, rv, wf⟩ => ⟨v, he, wf, fun hflat => ?_⟩
  refine ⟨fun b => if b < w.heap.size then h b else h2 b, fun b o e => ?_, I.call hb (fun b o e => ?_) (fun b o e => ?_) (fun b hb => if_pos hb), flatS_rep hflat rv⟩
  · simp only [I.old_lt e, if_true]; exact e
  · simp only [I.old_lt e, if_true]; exact e
  · by_cases hlt : b < w.heap.size
    · simp only [hlt, if_true] at e
      rw [hb.block b hlt]; exact I.agree b o e
    · simp only [hlt, if_false] at e; exact hag b o e
end seq
end Go.Proofs.YtchljgmcempedaaGreatDoor
