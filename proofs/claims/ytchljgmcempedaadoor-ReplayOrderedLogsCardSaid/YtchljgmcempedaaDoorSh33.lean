/- Functions with a range over a function: sound (nothing is claimed here). -/
import Derived.Test.YtchljgmcempedaaDoorSh32
import Derived.RangeFuncLeaves
set_option linter.unusedVariables false
set_option linter.unusedSimpArgs false
namespace Go.Proofs.YtchljgmcempedaaDoor
open Go Go.RowKit

section code
variable {E : Env} {n0 : Nat} {w0 : World} {h0 h : Hp} {θ : Th} {w : World}
/-- the mark among an activation's deferred calls -/
def MarkOk (θ : Th) (a : Act) : Option Nat → Prop
  | none => a.defers = []
  | some kd => ∃ (v : Value) (id : Nat), θ kd = some (v, some id) ∧ a.defers = [{ target := .collected id, args := #[] }]
theorem MarkOk.mono {θ θ' : Th} {a a' : Act} {D : Option Nat} (m : MarkOk θ a D) (ht : θ.le θ') (hd : a'.defers = a.defers) : MarkOk θ' a' D := by
  cases D with
  | none => exact hd.trans m
  | some kd =>
    obtain ⟨v, id, h1, h2⟩ := m
    exact ⟨v, id, ht _ _ h1, hd.trans h2⟩
theorem fixC_n : ∀ {l : List (Nat × (ETy × TypeId))} {s : St}, (fixC l s).n = s.n
  | [], s => rfl
  | p :: r, s => by
    unfold fixC
    split
    · split
      · exact fixC_n (l := r)
      · exact fixC_n (l := r)
    · exact fixC_n (l := r)
theorem fixC_ok : ∀ {l : List (Nat × (ETy × TypeId))} {s : St} {a : Act} {θ : Th}, SRel E n0 w0 h0 h θ s a w → ∃ θ', SRel E n0 w0 h0 h θ' (fixC l s) a w
  | [], s, a, θ, R => ⟨θ, R⟩
  | p :: r, s, a, θ, R => by
    unfold fixC
    split
    · rename_i k hT
      split
      · rename_i ty hM
        have I := R.inv.newNil (κ := s.κ) (Nat.le_refl _) (.row p.2.1 [] p.2.2) (.slice none 0 0) (.inl ⟨rfl, none, rfl⟩)
        have tle := Th.le_set (hd := ((Value.slice none 0 0, none) : Hd)) (R.inv.fresh s.κ (Nat.le_refl _))
        have hk : k ≠ s.κ := fun q => by
          subst q
          exact R.inv.key hM (Nat.le_refl _)
        obtain ⟨hd, e1, id, vs, ty', q1, q2, q3, q4, q5⟩ := R.inv.blk k _ hM
        subst q1
        have hvs : vs = [.slice none 0 0] := by
          rcases q5.inv with ⟨v, vs', rfl, c, r1, r2⟩ | ⟨_, _, _, _, q, _⟩
          · rw [r2.nil_inv]
            cases r1; rfl
          · cases q
        subst hvs
        have e2 : (s.M.set s.κ (.row p.2.1 [] p.2.2)) k = some (.cells [.v (.slice none 0 0)] ty) := by rw [Mem.set_ne _ _ hk]; exact hM
        have I2 := I.upd (b' := .cells [.own s.κ] ty) e2 (fun _ _ q => by cases q) (fun _ _ q => by cases q) (tle _ _ e1) (.refl _ _) rfl (fun _ _ => rfl)
          ⟨id, [.slice none 0 0], ty', rfl, q2, q3, q4, .cell _ _ _ _ rfl (.own _ _ _ _ _ (if_pos rfl)) .nil⟩
        exact fixC_ok (l := r) (s := ⟨s.T, (s.M.set s.κ (.row p.2.1 [] p.2.2)).set k (.cells [.own s.κ] ty), s.κ + 1, s.n⟩) ⟨I2.less (fun _ _ e => e) (fun k hk => ⟨by simp only at hk; omega, by simp only at hk; omega⟩), R.tmps.mono (.refl _) tle, R.size⟩
      · exact fixC_ok (l := r) R
    · exact fixC_ok (l := r) R
def CodeOkT (E : Env) (L : Nat → Option (St → LoopSpec)) (N : List (Nat × (ETy × TypeId))) (n0 : Nat) (w0 : World) (h0 : Hp) (n : Nat) : Prop :=
  ∀ (G : Goal) (c : Code) (s : St) (D : Option Nat) (K : Ex → St → Option Nat → Tree) (a : Act) (w : World) (h : Hp) (θ : Th) (Q : Exit → Act → World → Prop), SRel E n0 w0 h0 h θ s a w → MarkOk θ a D → (evCodeT E L N n c s D K).holds G →
    (∀ e s' D' a' w' h' θ' G2, agree [] G G2 → SRel E n0 w0 h0 h' θ' s' a' w' → MarkOk θ' a' D' → s'.n = s.n → (K e s' D').holds G2 → Q (exT e) a' w') → c.wp E.P Q a w
theorem range_rep {T : Tmps} {a : Array Value} (hT : RepT h θ T a) : RepL h θ ((List.range a.size).map T) a.toList := by
  have key : ∀ (l : List Value) (j : Nat), (∀ i, i < l.length → l[i]? = a.toList[j + i]?) → RepL h θ ((List.range' j l.length).map T) l := by
    intro l
    induction l with
    | nil => intro j _; exact .nil
    | cons x l ih =>
      intro j hj
      rw [List.length_cons, List.range'_succ, List.map_cons]
      refine .cons _ _ _ _ ?_ (ih (j + 1) fun i hi => ?_)
      · have h0 := hj 0 (by simp)
        simp only [List.getElem?_cons_zero, Nat.add_zero, Array.getElem?_toList] at h0
        have := hT j
        rw [Array.getD_eq_getD_getElem?, ← h0] at this
        exact this
      · have h1 := hj (i + 1) (by simpa using hi)
        simp only [List.getElem?_cons_succ] at h1
        rw [h1, show j + (i + 1) = j + 1 + i by omega]
  have := key a.toList 0 fun i _ => by rw [Nat.zero_add]
  rw [List.range_eq_range']
  simpa using this
/-- the statement's beginning -/
theorem enter_ok {s1 : St} {a : Act} {θ1 : Th} (R1 : SRel E n0 w0 h0 h θ1 s1 a w) (fid : FuncId) (ps : Array Tmp) (as bd : Code) :
    ∃ θ2 W2, (Instr.enterLoop fid a.tmps ps as bd none).run E.P w = .ok (w.heap.size + 1, [{ target := .collected w.heap.size, args := #[] }]) W2 ∧ θ1.le θ2 ∧ Inv E n0 w0 h0 h θ2 (rngM s1 ps as bd) (fun k => s1.κ + 2 ≤ k) W2 ∧
      θ2 (s1.κ + 1) = some (.func (.yield (w.heap.size + 1)) a.tmps #[], some (w.heap.size + 1)) ∧ θ2 s1.κ = some (.bool false, some w.heap.size) := by
  have hold : ∀ {i : Nat} {o : Obj}, h i = some o → i < w.heap.size := fun e => R1.inv.old_lt e
  have hnone : ∀ i, w.heap.size ≤ i → h i = none := fun i hi => by
    cases hq : h i with
    | none => rfl
    | some o => have := hold hq; omega
  have I1 := R1.inv.new (κ := s1.κ) (Nat.le_refl _) (.deferred (some [])) .dfr (.bool false) ⟨w.heap.size, _, rfl, R1.inv.size, hnone _ (Nat.le_refl _), by simp⟩
  have t1 := Th.le_set (hd := ((Value.bool false, some w.heap.size) : Hd)) (R1.inv.fresh s1.κ (Nat.le_refl _))
  have hsz : s1.n = a.tmps.size := R1.size.symm
  have hrep := range_rep R1.tmps
  rw [← hsz] at hrep
  have fr2 : (fun k => s1.κ ≤ k ∧ k ≠ s1.κ) (s1.κ + 1) := ⟨by omega, by omega⟩
  have hf2 : (fun k => if k = s1.κ then some ((Value.bool false, some w.heap.size) : Hd) else θ1 k) (s1.κ + 1) = none := I1.fresh (s1.κ + 1) fr2
  have hrep1 := hrep.mono (.refl _) t1
  have hat : (fun k => if k = s1.κ then some ((Value.bool false, some w.heap.size) : Hd) else θ1 k) s1.κ = some (.bool false, some w.heap.size) := if_pos rfl
  generalize (fun k => if k = s1.κ then some ((Value.bool false, some w.heap.size) : Hd) else θ1 k) = θa at *
  have hsz2 : ({ w with heap := w.heap.push (.deferred (some [])) } : World).heap.size = w.heap.size + 1 := by simp
  have t2 := Th.le_set (θ := θa) (hd := ((Value.func (.yield (w.heap.size + 1)) a.tmps #[], some (w.heap.size + 1)) : Hd)) hf2
  have I2 := I1.new (κ := s1.κ + 1) fr2 (.loop { state := .ready, pending := none, fn := fid, tmps := a.tmps, params := ps, assign := as, body := bd, defers := w.heap.size }) (.lp ((List.range s1.n).map s1.T) ps as bd .ready none) (.func (.yield (w.heap.size + 1)) a.tmps #[]) (by
    rw [hsz2]
    refine ⟨w.heap.size + 1, { state := .ready, pending := none, fn := fid, tmps := a.tmps, params := ps, assign := as, body := bd, defers := w.heap.size }, rfl, by have := R1.inv.size; omega, hnone _ (by omega), ?_, rfl, rfl, rfl, rfl, rfl, ?_⟩
    · show (((w.heap.push _).push _)[w.heap.size + 1]?) = _
      rw [Array.getElem?_push, if_pos (by simp)]
    · exact hrep1.mono (.refl _) t2)
  rw [hsz2] at I2
  refine ⟨_, _, run_enterLoop_outer fid a.tmps ps as bd, t1.trans t2, I2.less (fun _ _ e => e) (fun (k : Nat) (hk : s1.κ + 2 ≤ k) => ⟨⟨by omega, by omega⟩, by omega⟩), if_pos rfl, ?_⟩
  rw [if_neg (by omega)]; exact hat
/-- the call -/
theorem rngCall_ok (ok : EnvOk E) {s1 : St} {a : Act} {θ1 θ2 : Th} (R1 : SRel E n0 w0 h0 h θ1 s1 a w) (ht : θ1.le θ2) {l : Nat} {ts : Array Value} (hy : θ2 (s1.κ + 1) = some (.func (.yield l) ts #[], some l)) {g : Operand} {f : FuncId} {args : List SV} (hca : calleeS (opd s1.T g) [.yld (s1.κ + 1)] = some (f, args)) (hgc : E.callee f = true) :
    ∃ (d : Deferred) (us : List Value), RepL h θ2 args us ∧ ∀ W : World, (resolve a.eval (rangeCall g l) 0).run E.P W = .ok d W ∧ (invoke d.target d.args).run E.P W = .ok (.enter f us.toArray) W := by
  unfold calleeS at hca
  split at hca
  · rename_i g' first cap hfo
    simp only [Option.some.injEq, Prod.mk.injEq] at hca
    obtain ⟨hgf, hga⟩ := hca
    subst hgf hga
    have rf := opd_rep R1.tmps g
    rw [hfo] at rf
    obtain ⟨xs, ys, hv, r1, r2⟩ : ∃ xs ys, a.eval g = .func (.func g') xs.toArray ys.toArray ∧ RepL h θ1 first xs ∧ RepL h θ1 cap ys := by
      generalize a.eval g = v at rf
      cases rf; exact ⟨_, _, rfl, ‹_›, ‹_›⟩
    have ru : RepL h θ2 (first ++ ([.yld (s1.κ + 1)] ++ cap)) (xs ++ ([.func (.yield l) #[] #[]] ++ ys)) :=
      RepL.append (ss := first) (vs := xs) (r1.mono (.refl _) ht) (RepL.cons _ _ _ _ (.yld _ _ _ hy) (r2.mono (.refl _) ht))
    refine ⟨{ target := .fn (.func g') ys.toArray, args := xs.toArray ++ #[.func (.yield l) #[] #[]] }, _, ru, fun W => ⟨?_, ?_⟩⟩
    · have hmap : (#[Operand.const (Value.func (.yield l) #[] #[])] : Array Operand).map a.eval = #[Value.func (.yield l) #[] #[]] := by simp [Act.eval]
      simp only [resolve, hv, Deferred.ofValue, Sem.run_pure, hmap]
    · have harr : (xs.toArray ++ #[Value.func (.yield l) #[] #[]]) ++ ys.toArray = (xs ++ ([Value.func (.yield l) #[] #[]] ++ ys)).toArray := by apply Array.ext'; simp
      have := ok.callee g' hgc ((xs.toArray ++ #[Value.func (.yield l) #[] #[]]) ++ ys.toArray) W
      simp only [invoke, harr]
      rw [harr] at this
      exact this
  · cases hca
theorem codeT_ok (ok : EnvOk E) (L : Nat → Option (St → LoopSpec)) (N : List (Nat × (ETy × TypeId))) : ∀ n, CodeOkT E L N n0 w0 h0 n
  | 0 => fun G c s D K a w h θ Q R m e hk => e.elim
  | n + 1 => fun G c s D K a w h θ Q R m e hk => by
    have ih := codeT_ok ok L N n
    cases c <;> simp only [evCodeT] at e <;> first | exact e.elim | skip
    case skip => exact wp_skip (hk .normal s D a w h θ G (.refl _ _) R m rfl e)
    case label l => exact wp_label (hk .normal s D a w h θ G (.refl _ _) R m rfl e)
    case exit id => exact wp_exit (hk (.exit id) s D a w h θ G (.refl _ _) R m rfl e)
    case ret => exact wp_ret (hk .ret s D a w h θ G (.refl _ _) R m rfl e)
    case region id ops draw =>
      unfold evRegion at e
      rcases holds_bif (H := fun t => t.holds G) e with ⟨rfl, e⟩ | ⟨rfl, e⟩
      · obtain ⟨hd, e⟩ := holds_need (Closed.holds G) e
        refine wpIn_wide.1 (wpIn_region_any (F := FW none) (n := 0) ok.mixed ?_)
        obtain ⟨h2, hle2, I2⟩ := R.inv.freezeM (frzL ops.toList (beforeL [] ops.toList) s.T s.M 0 ops.toList)
        refine outer (r := none) ok (Closed.holds G) (call_ok (code_ok ok n)) hd (h1 := h) (θ1 := θ) (s1 := s) (a1 := a) (fun s' a' w' h' θ' R' L' e' => hk .normal s' D a' w' h' θ' G (.refl _ _) R' (m.mono L'.ht L'.d) L'.n e') (Kp := noK) (fun v u M' κ' s' a' w' h' θ' _ _ _ _ e' => False.elim e') ops.size 0 _ (s.pre ops.toList (beforeL [] ops.toList) 0 ops.toList) a _ h2 θ (Nat.zero_le _) (Lst.init ops) (Nat.le_refl _) ⟨I2.drawn _, R.tmps.mono hle2 (.refl _), R.size⟩ ⟨hle2, .refl _, Nat.le_refl _, rfl, rfl⟩ (storesL ops.toList (beforeL [] ops.toList) s.T 0 s.κ 0 ops.toList) ?_
        exact e
      · refine wpIn_wide.1 (wpIn_region (F := FW none) (n := 0) ?_)
        have := evOps_ok (r := none) ok (Closed.holds G) (call_ok (code_ok ok n)) (Q := Q) ops.toList 0 (by simp) R e (fun s' a' w' h' θ' R' hh ht hκ hn hd e' => hk .normal s' D a' w' h' θ' G (.refl _ _) R' (m.mono ht hd) hn e') (Kp := noK) (fun v u M' κ' a' w' h' θ' _ _ _ _ _ _ e' => False.elim e')
        rw [List.range_eq_range']
        simpa using this
    case seq x y =>
      refine wp_seq (ih G x s D _ a w h θ _ R m e fun ex s' D' a' w' h' θ' G2 hG R' m' hs e' => ?_)
      cases ex with
      | normal => exact ih G2 y s' D' K a' w' h' θ' Q R' m' e' fun e2 s2 D2 a2 w2 h2 θ2 G3 hG3 R2 m2 hs2 e2' => hk e2 s2 D2 a2 w2 h2 θ2 G3 (hG.trans hG3) R2 m2 (hs2.trans hs) e2'
      | exit i => exact hk (.exit i) s' D' a' w' h' θ' G2 hG R' m' hs e'
      | ret => exact hk .ret s' D' a' w' h' θ' G2 hG R' m' hs e'
    case cond c x y =>
      have r := opd_rep R.tmps c
      split at e
      · rename_i hq
        rw [hq] at r
        have hv : a.eval c = .bool true := by generalize a.eval c = u at r; cases r; rfl
        exact wp_cond_true hv (ih G x s D K a w h θ Q R m e hk)
      · rename_i hq
        rw [hq] at r
        have hv : a.eval c = .bool false := by generalize a.eval c = u at r; cases r; rfl
        exact wp_cond_false hv (ih G y s D K a w h θ Q R m e hk)
      · rename_i q hq
        rw [hq] at r
        have hv : a.eval c = .bool q := by generalize a.eval c = u at r; cases r; rfl
        refine wp_cond hv ?_
        rcases holds_bif (H := fun t => t.holds G) e with ⟨rfl, e⟩ | ⟨rfl, e⟩
        · exact ih G x s D K a w h θ Q R m e hk
        · exact ih G y s D K a w h θ Q R m e hk
      · exact e.elim
    case block id body =>
      refine wp_block (ih G body s D _ a w h θ _ R m e fun ex s' D' a' w' h' θ' G2 hG R' m' hs e' => ?_)
      cases ex with
      | normal => exact hk .normal s' D' a' w' h' θ' G2 hG R' m' hs e'
      | exit i =>
        simp only [exT, Exit.inBlock]
        rcases holds_bif (H := fun t => t.holds G2) e' with ⟨hi, e'⟩ | ⟨hi, e'⟩
        · rw [if_pos (Nat.eq_of_beq_eq_true hi)]
          exact hk .normal s' D' a' w' h' θ' G2 hG R' m' hs e'
        · rw [if_neg (fun h => by subst h; rw [Nat.beq_refl] at hi; cases hi)]
          exact hk (.exit i) s' D' a' w' h' θ' G2 hG R' m' hs e'
      | ret => exact hk .ret s' D' a' w' h' θ' G2 hG R' m' hs e'
    case scope body =>
      refine wp_scope_straight (ih G body s D K a w h θ _ R m e fun ex s' D' a' w' h' θ' G2 hG R' m' hs e' => ?_)
      cases ex <;> exact hk _ s' D' a' w' h' θ' G2 hG R' m' hs e'
    case rangeFunc g ps as bd =>
      cases D with
      | some kd => exact e.elim
      | none =>
        simp only at e
        have hda : a.defers = [] := m
        obtain ⟨θ1, R1⟩ := fixC_ok (l := N) R
        have hn1 := fixC_n (l := N) (s := s)
        generalize fixC N s = s1 at e R1 hn1
        split at e
        · rename_i f args hca
          obtain ⟨hgc, eG⟩ := holds_need (Closed.holds G) e
          clear e
          split at eG
          · rename_i fn hf
            have hsz : s1.n = a.tmps.size := R1.size.symm
            refine wpIn_wide.1 (wpIn_rangeFunc (F := Fence.wide) (n := 0) fun fid _ => ?_)
            obtain ⟨θ2, W2, henter, ht12, I2, hy, hm⟩ := enter_ok R1 fid ps as bd
            obtain ⟨dd, us, ru, hcall⟩ := rngCall_ok ok R1 ht12 hy hca hgc
            have d0 : DRel θ2 [s1.κ + 1, s1.κ] [(Value.func (.yield (w.heap.size + 1)) a.tmps #[], some (w.heap.size + 1)), (Value.bool false, some w.heap.size)] := ⟨rfl, fun (j k : Nat) (hk : [s1.κ + 1, s1.κ][j]? = some k) => by
              match j, hk with
              | 0, hk => cases hk; exact ⟨_, rfl, hy⟩
              | 1, hk => cases hk; exact ⟨_, rfl, hm⟩⟩
            have call := bodyI_ok ok L hf eG I2 ru d0
            refine ⟨w.heap.size + 1, _, W2, dd, W2, f, us.toArray, W2, henter, (hcall W2).1, fun _ _ => trivial, (hcall W2).2, fun q => by simp [Fence.wide] at q, callsIn_wide.2 (call.mono fun en w3 hx => ?_)⟩
            obtain ⟨v, r, s3, D3, h3, θ3, G3, he, hG3, e3, I3, d3⟩ := hx
            subst he
            unfold endT at e3
            split at e3
            · rename_i kl kd
              split at e3
              · rename_i T ps3 as3 bd3 st3 pend3 hM3
                obtain ⟨id, rec, m1, m2, m3, m4, m5, m6, m7, m8, m9, _⟩ := lp_at I3 hM3
                obtain ⟨hd, g1, g2⟩ := d3.2 0 kl rfl
                cases g1
                rw [g2] at m1
                simp only [Option.some.injEq, Prod.mk.injEq, Value.func.injEq] at m1
                obtain ⟨⟨_, ht3, _⟩, hid⟩ := m1
                subst hid
                obtain ⟨hd', g3, g4⟩ := d3.2 1 kd rfl
                cases g3
                have hbusy : rec.state ≠ .busy := by
                  rw [m4]; intro q; subst q; exact e3
                refine ⟨rec.pending, _, run_endLoop m3 hbusy, ?_⟩
                have I4 := I3.drop hM3 (fun _ _ q => by cases q) g2 (below_putObj m2 (w := w3) (o := .loop { rec with state := .exhausted })) (fun i hi => World.putObj_heap_other hi)
                have hT4 : RepT h3 θ3 (initT T) a.tmps := by
                  rw [ht3]
                  have := initT_rep 0 m9
                  simpa using this
                have R4 : SRel E n0 w0 h0 h3 θ3 ⟨initT T, s3.M.del kl, s3.κ, s1.n⟩ { tmps := a.tmps, defers := [{ target := .collected w.heap.size, args := #[] }] ++ a.defers } (w3.putObj (w.heap.size + 1) (.loop { rec with state := .exhausted })) := ⟨I4, hT4, hsz.symm⟩
                have m4' : MarkOk θ3 { tmps := a.tmps, defers := [{ target := .collected w.heap.size, args := #[] }] ++ a.defers } (some kd) := ⟨_, _, g4, by rw [hda]; rfl⟩
                have fin : ∀ ex, (K ex ⟨initT T, s3.M.del kl, s3.κ, s1.n⟩ (some kd)).holds G3 → Q (exT ex) { tmps := a.tmps, defers := [{ target := .collected w.heap.size, args := #[] }] ++ a.defers } (w3.putObj (w.heap.size + 1) (.loop { rec with state := .exhausted })) := fun ex he => hk ex _ _ _ _ _ _ G3 hG3 R4 m4' hn1 he
                rw [m5] at fin ⊢
                split at e3
                · exact e3.elim
                · split at e3
                  · exact fin .normal e3
                  · exact wpIn_ret (fin .ret e3)
                  · exact wpIn_exit (fin (.exit _) e3)
                  · exact e3.elim
              · exact e3.elim
            · exact e3.elim
          · exact eG.elim
        · exact e.elim
/-- what is handed over at the end -/
theorem finR_ok {Q : SV → Prop} {G2 : Goal} (hG : agree [] (Goal.of Q) G2) {fn : Func} {s' : St} {a' : Act} {h' : Hp} {θ' : Th} {w w' : World} {h : Hp} (R : SRel E w.heap.size w h h' θ' s' a' w') (eK : (finR E fn s').holds G2) :
    ∃ v, (results fn a'.tmps).run E.P w' = .ok v w' ∧ (∃ v1 r h'', Ending.returned v = .returned v1 ∧ Q r ∧ Below w.heap.size w w' ∧ h.le h'' ∧ (∀ b o, h'' b = some o → w'.heap[b]? = some o) ∧ (∀ b, b < w.heap.size → h'' b = h b) ∧ Rep h'' Th0 r v1) := by
  unfold finR at eK
  split at eK
  · rename_i vs hr
    obtain ⟨u, h1, h2⟩ := result_ok R.inv R.tmps hr
    split at eK
    · rename_i r' hl
      obtain ⟨h3, hle3, I2⟩ := R.inv.freezeM (keysS (oneS vs))
      have hq : Q r' := by
        have : G2.q r' := eK
        rw [hG.1] at this
        exact this
      exact ⟨u, h1, u, r', h3, rfl, hq, I2.below, I2.hle, I2.agree, I2.hold, liftS_rep hl (h2.mono hle3 (.refl _)) I2.lies⟩
    · exact eK.elim
  · exact eK.elim
/-- A function's call comes to what the tree says. -/
theorem evFM_ok (ok : EnvOk E) (L : Nat → Option (St → LoopSpec)) (N : List (Nat × (ETy × TypeId))) {n : Nat} {f : FuncId} {args : List SV} {Q : SV → Prop} (e : (evFM E L N n f args).ends Q) {h : Hp} {w : World} {us : List Value} (hag : ∀ b o, h b = some o → w.heap[b]? = some o) (hg : GlobOk E h) (ru : RepL h Th0 args us) :
    Calls E.P f us.toArray w fun en w' => ∃ v r h', en = .returned v ∧ Q r ∧ Below w.heap.size w w' ∧ h.le h' ∧ (∀ b o, h' b = some o → w'.heap[b]? = some o) ∧ (∀ b, b < w.heap.size → h' b = h b) ∧ Rep h' Th0 r v := by
  unfold evFM at e
  split at e
  · rename_i fn hf
    have I : Inv E w.heap.size w h h Th0 (fun _ => none) (fun k => 0 ≤ k) w :=
      ⟨hag, (fun k b e => by cases e), (fun k k' b b' id v v' e => by cases e), fun _ _ => rfl, .refl _ _, rfl, .refl _, fun _ _ => rfl, hg⟩
    split at e
    · rename_i body hbody
      obtain ⟨hle, e⟩ := holds_need (Closed.holds (Goal.of Q)) e
      have hle : args.length ≤ fn.ntmps := Nat.le_of_ble_eq_true hle
      have hlen : us.length = args.length := repL_length ru
      refine (callsIn_wide (n := 0)).1 (callsIn_of_wp_marks (F := Fence.wide) hf hbody trivial (wpIn_wide.2 ?_))
      refine codeT_ok ok L N n (Goal.of Q) body ⟨initT args, fun _ => none, 0, fn.ntmps⟩ none _ { tmps := us.toArray ++ Array.replicate (fn.ntmps - us.toArray.size) undef, defers := [] } w h Th0 _ ⟨I, initT_rep _ ru, by simp; omega⟩ rfl e fun ex s' D' a' w' h' θ' G2 hG R m hs eK => ?_
      have fin : (finT E fn .normal s' D').holds G2 → LeavesInM Fence.wide 0 E.P fn a'.tmps (fun en w' => ∃ v r h', en = .returned v ∧ Q r ∧ Below w.heap.size w w' ∧ h.le h' ∧ (∀ b o, h' b = some o → w'.heap[b]? = some o) ∧ (∀ b, b < w.heap.size → h' b = h b) ∧ Rep h' Th0 r v) a'.defers .returning w' := fun eK => by
        cases D' with
        | none =>
          have hd : a'.defers = [] := m
          rw [hd]
          exact finR_ok hG R (show (finR E fn s').holds G2 from eK)
        | some kd =>
          obtain ⟨v, id, m1, m2⟩ := m
          rw [m2]
          simp only [finT] at eK
          split at eK
          · rename_i hM
            obtain ⟨hd, q1, id', v', q2, q3, q4, q5⟩ := R.inv.blk kd _ hM
            rw [m1] at q1
            subst q2
            simp only [Option.some.injEq, Prod.mk.injEq] at q1
            obtain ⟨_, hid⟩ := q1
            subst hid
            refine ⟨by simp, .inl ⟨id, _, rfl, run_takeDeferred q5, ?_⟩⟩
            have I4 := R.inv.drop hM (fun _ _ q => by cases q) m1 (below_putObj q3 (w := w') (o := .deferred none)) (fun i hi => World.putObj_heap_other hi)
            exact finR_ok hG (s' := ⟨s'.T, s'.M.del kd, s'.κ, s'.n⟩) ⟨I4, R.tmps, R.size⟩ eK
          · exact eK.elim
      cases ex with
      | normal => exact fin eK
      | ret => exact fin eK
      | exit i => exact eK.elim
    · exact e.elim
  · exact e.elim
end code
end Go.Proofs.YtchljgmcempedaaDoor
