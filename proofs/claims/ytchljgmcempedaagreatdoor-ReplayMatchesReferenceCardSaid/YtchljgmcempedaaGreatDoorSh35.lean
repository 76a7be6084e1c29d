/- What a region leaves alone; regions in every order; calls that may panic (nothing is claimed here). -/
import Derived.Test.YtchljgmcempedaaGreatDoorSh29
import Derived.RecoverIn
set_option linter.unusedVariables false
set_option linter.unusedSimpArgs false
namespace Go.Proofs.YtchljgmcempedaaGreatDoor
open Go Go.RowKit

/-- the slots that a region writes -/
def wroteL : List Oper → Nat → Bool
  | [], _ => false
  | o :: r, t => (match o.dst with
    | some d => Nat.beq d t
    | none => false) || wroteL r t
def junkT (ops : List Oper) (T : Tmps) : Tmps := fun t => bif wroteL ops t then .junk else T t
def FrameT (ops : List Oper) (a a' : Act) : Prop := a'.tmps.size = a.tmps.size ∧ ∀ t, wroteL ops t = false → a'.tmps.getD t undef = a.tmps.getD t undef
theorem FrameT.refl (ops : List Oper) (a : Act) : FrameT ops a a := ⟨rfl, fun _ _ => rfl⟩
theorem wroteL_mem {ops : List Oper} {o : Oper} {d t : Nat} (hm : o ∈ ops) (hd : o.dst = some d) (hw : wroteL ops t = false) : t ≠ d := by
  induction ops with
  | nil => cases hm
  | cons o' ops ih =>
    unfold wroteL at hw
    rw [Bool.or_eq_false_iff] at hw
    rcases List.mem_cons.1 hm with hm | hm
    · intro q
      have h1 := hw.1
      rw [← hm, hd, q] at h1
      simp at h1
    · exact ih hm hw.2
theorem FrameT.put {ops : Array Oper} {i : Nat} {o : Oper} (ho : ops[i]? = some o) {a0 a b : Act} (h : FrameT ops.toList a0 a) (hb : b.tmps = a.tmps) (v : Value) : FrameT ops.toList a0 (b.put o.dst v) := by
  have hm : o ∈ ops.toList := by
    have := Array.mem_of_getElem? ho
    simpa using this
  refine ⟨by rw [put_size, hb]; exact h.1, fun t ht => ?_⟩
  cases hd : o.dst with
  | none => simp only [Act.put]; rw [hb]; exact h.2 t ht
  | some d =>
    have hne := wroteL_mem hm hd ht
    simp only [Act.put]
    rw [Array.getD_eq_getD_getElem?, Array.getElem?_setIfInBounds_ne (Ne.symm hne), ← Array.getD_eq_getD_getElem?, hb]
    exact h.2 t ht
/-- what holds if only the region's own slots have changed -/
def framed (ops : List Oper) (a0 : Act) (Q : Exit → Act → World → Prop) : Exit → Act → World → Prop := fun e a w => (e ≠ .outgrown → FrameT ops a0 a) → Q e a w
theorem framed_out {ops : List Oper} {a0 : Act} {Q : Exit → Act → World → Prop} : LetsOut (framed ops a0 Q) → LetsOut Q := fun ⟨a, w, h⟩ => ⟨a, w, h fun q => absurd rfl q⟩
section frame
variable {F : Fence} {n : Nat} {P : Program}
theorem uponIn_frame {o : Oper} {a : Act} {K K2 : Act → World → Prop} {Q Q2 : Exit → Act → World → Prop} (hK : ∀ (b : Act) (v : Value) (w' : World), b.tmps = a.tmps → K (b.put o.dst v) w' → K2 (b.put o.dst v) w') (hQ : ∀ e w', e ≠ .outgrown → Q e a w' → Q2 e a w') (hO : LetsOut Q → LetsOut Q2) {r : Result Next} (h : o.uponIn F n P a K Q r) : o.uponIn F n P a K2 Q2 r := by
  cases r with
  | ok x w' =>
    cases x <;> simp only [Oper.uponIn] at h ⊢ <;>
      first
        | exact h.elim
        | exact hK a _ _ rfl h
        | exact hK { a with defers := _ } _ _ rfl h
        | exact ⟨h.1, CallsIn.mono h.2 (fun e w'' he => by cases e <;> first | exact hK a _ _ rfl he | exact hQ _ _ (by simp) he | exact hO he)⟩
        | exact ⟨h.1, RowsIn.mono h.2 (fun _ _ he => hK a _ _ rfl he)⟩
        | exact ⟨h.1, RoundIn.mono h.2 (fun e w'' he => by cases e <;> first | exact hK a _ _ rfl he | exact hQ _ _ (by simp) he | exact hO he)⟩
  | halt x w' => cases x <;> simp only [Oper.uponIn] at h ⊢ <;> first | exact h.elim | exact hQ _ _ (by simp) h
theorem wpOpsIn_frame {ops : Array Oper} {Q : Exit → Act → World → Prop} {a0 : Act} : ∀ (l : List Nat) (a : Act) (w : World), FrameT ops.toList a0 a → wpOpsIn F n P ops (framed ops.toList a0 Q) l a w → wpOpsIn F n P ops Q l a w
  | [], a, w, hf, h => h fun _ => hf
  | i :: rest, a, w, hf, h => by
    simp only [wpOpsIn] at h ⊢
    cases ho : ops[i]? with
    | none => simp only [ho] at h ⊢; exact wpOpsIn_frame rest a w hf h
    | some o =>
      simp only [ho] at h ⊢
      by_cases hw : Region.wanted o (yielded ops a.tmps) = true
      · rw [if_pos hw] at h ⊢
        exact ⟨h.1, uponIn_frame (fun b v w' hb hk => wpOpsIn_frame rest _ _ (hf.put ho hb v) hk) (fun e w' he hq => hq fun _ => hf) framed_out h.2⟩
      · rw [if_neg hw] at h ⊢
        exact ⟨h.1, wpOpsIn_frame rest _ _ (hf.put ho rfl undef) h.2⟩
theorem wpAnyIn_frame {md : Region.Mode} {ops : Array Oper} {Q : Exit → Act → World → Prop} {a0 : Act} : ∀ (fuel : Nat) (listed : Array Bool) (a : Act) (w : World), FrameT ops.toList a0 a → wpAnyIn F n P md ops (framed ops.toList a0 Q) fuel listed a w → wpAnyIn F n P md ops Q fuel listed a w
  | 0, listed, a, w, hf, h => ⟨h.1, h.2 fun _ => hf⟩
  | fuel + 1, listed, a, w, hf, h => by
    refine ⟨fun hr => h.1 hr fun _ => hf, fun i hi => ?_⟩
    have h := h.2 i hi
    unfold wpOpIn at h ⊢
    cases ho : ops[i]? with
    | none => simp only [ho] at h ⊢; exact wpAnyIn_frame fuel _ a w hf h
    | some o =>
      simp only [ho] at h ⊢
      by_cases hw : Region.wanted o (yielded ops a.tmps) = true
      · rw [if_pos hw] at h ⊢
        exact ⟨h.1, uponIn_frame (fun b v w' hb hk => wpAnyIn_frame fuel _ _ _ (hf.put ho hb v) hk) (fun e w' he hq => hq fun _ => hf) framed_out h.2⟩
      · rw [if_neg hw] at h ⊢
        exact ⟨h.1, wpAnyIn_frame fuel _ _ _ (hf.put ho rfl undef) h.2⟩
end frame

/-! regions -/
def evRegionP (E : Env) (H : Hooks) (ops : Array Oper) (draw : Bool) (s : St) (K : St → Tree) (Kp : SV → St → Tree) : Tree :=
  evRegion E H ops draw s K fun v M κ => Kp v ⟨junkT ops.toList s.T, M, κ, s.n⟩
def anyT (f : Nat → Tree) : List Nat → Tree
  | [] => .triv
  | [i] => f i
  | i :: r => .fork (f i) (anyT f r)
/-- a region in every order -/
def evAny (E : Env) (H : Hooks) (ops : Array Oper) (Kp : KT) : Nat → Array Bool → St → (St → Tree) → Tree
  | 0, listed, s, K => match Region.ready .any ops listed with
    | [] => K s
    | _ => .fail
  | fuel + 1, listed, s, K => match Region.ready .any ops listed with
    | [] => K s
    | rs => anyT (fun i => match ops[i]? with
      | none => .fail
      | some o => evOp E H true ops o s.M s (fun s => evAny E H ops Kp fuel (listed.setIfInBounds i true) s K) Kp) rs
def evRegionA (E : Env) (H : Hooks) (ops : Array Oper) (s : St) (K : St → Tree) (Kp : SV → St → Tree) : Tree :=
  evAny E H ops (fun v M κ => Kp v ⟨junkT ops.toList s.T, M, κ, s.n⟩) ops.size (Array.replicate ops.size false) s K
section region
variable {E : Env} {n0 : Nat} {w0 : World} {h0 h : Hp} {θ : Th} {w : World}
theorem anyT_holds {G : Goal} {f : Nat → Tree} : ∀ {l : List Nat}, (anyT f l).holds G → ∀ i, i ∈ l → (f i).holds G
  | [], e, i, hi => by cases hi
  | [j], e, i, hi => by
    rcases List.mem_cons.1 hi with rfl | hi
    · exact e
    · cases hi
  | j :: k :: r, e, i, hi => by
    rcases List.mem_cons.1 hi with rfl | hi
    · exact e.1
    · exact anyT_holds (l := k :: r) e.2 i hi
theorem evAny_ok (ok : EnvOk E) (G : Goal) {hk : Hooks} (hc : HooksOk E n0 w0 h0 (fun t => t.holds G) hk) {ops : Array Oper} {Kp : KT} {K : St → Tree} {Q : Exit → Act → World → Prop} {s0 : St} {a0 : Act} {hh0 : Hp} {θ0 : Th}
    (hn : ∀ s' a' w' h' θ', SRel E n0 w0 h0 h' θ' s' a' w' → Later hh0 θ0 s0 a0 h' θ' s' a' → (K s').holds G → Q .normal a' w')
    (hp : ∀ v u M' κ' a' w' h' θ', Inv E n0 w0 h0 h' θ' M' (fun k => κ' ≤ k) w' → Rep h' θ' v u → hh0.le h' → θ0.le θ' → s0.κ ≤ κ' → a'.defers = a0.defers → (Kp v M' κ').holds G → Q (.panic [{ v := u, recovered := false }]) a' w') : ∀ (fuel : Nat) (listed : Array Bool) (s : St) (a : Act) (w : World) (h : Hp) (θ : Th), SRel E n0 w0 h0 h θ s a w → Later hh0 θ0 s0 a0 h θ s a →
    (evAny E hk ops Kp fuel listed s K).holds G → wpAnyIn (FW none) 0 E.P .any ops Q fuel listed a w
  | 0, listed, s, a, w, h, θ, R, L, e => by
    unfold evAny at e
    split at e
    · rename_i hr; exact ⟨hr, hn s a w h θ R L e⟩
    · exact e.elim
  | fuel + 1, listed, s, a, w, h, θ, R, L, e => by
    unfold evAny at e
    split at e
    · rename_i hr
      exact ⟨fun _ => hn s a w h θ R L e, fun i hi => by rw [hr] at hi; cases hi⟩
    · rename_i hr
      refine ⟨fun q => absurd q hr, fun i hi => ?_⟩
      have e := anyT_holds e i hi
      unfold wpOpIn
      cases ho : ops[i]? with
      | none => rw [ho] at e; exact e.elim
      | some o =>
        rw [ho] at e
        simp only at e ⊢
        have := evOp_ok (r := none) ok (Closed.holds G) hc (Q := Q) R e (next := wpAnyIn (FW none) 0 E.P .any ops Q fuel (listed.setIfInBounds i true)) (fun s' a' w' h' θ' R' hh ht hκ hsn hd e' =>
          evAny_ok ok G hc hn hp fuel _ s' a' w' h' θ' R' (L.trans ⟨hh, ht, hκ, hsn, hd⟩) e')
          (fun v u M' κ' w' h' θ' I' ru hh ht hκ e' => hp v u M' κ' a w' h' θ' I' ru (L.hh.trans hh) (L.ht.trans ht) (Nat.le_trans L.κ hκ) L.d e')
        rcases this with ⟨hw, hwp⟩ | ⟨hw, hnx⟩
        · rw [if_pos hw]; exact hwp
        · rw [if_neg (by rw [hw]; simp)]; exact ⟨fun _ _ => trivial, hnx⟩
/-- what a region comes to when it panics -/
theorem junk_rel {ops : List Oper} {s : St} {a a' : Act} {h' : Hp} {θ' : Th} {M' : Mem} {κ' : Nat} {w' : World} (R : SRel E n0 w0 h0 h θ s a w) (I : Inv E n0 w0 h0 h' θ' M' (fun k => κ' ≤ k) w') (hh : h.le h') (ht : θ.le θ') (hf : FrameT ops a a') : SRel E n0 w0 h0 h' θ' ⟨junkT ops s.T, M', κ', s.n⟩ a' w' := by
  refine ⟨I, fun t => ?_, hf.1.trans R.size⟩
  simp only [junkT]
  cases hw : wroteL ops t with
  | true => exact .junk _
  | false => rw [cond_false, hf.2 t hw]; exact (R.tmps t).mono hh ht
theorem regionP_ok (ok : EnvOk E) (G : Goal) {hk : Hooks} (hc : HooksOk E n0 w0 h0 (fun t => t.holds G) hk) {id : Nat} {ops : Array Oper} {draw : Bool} {s : St} {K : St → Tree} {Kp : SV → St → Tree} {a : Act} {Q : Exit → Act → World → Prop} (R : SRel E n0 w0 h0 h θ s a w) (e : (evRegionP E hk ops draw s K Kp).holds G)
    (hn : ∀ s' a' w' h' θ', SRel E n0 w0 h0 h' θ' s' a' w' → Later h θ s a h' θ' s' a' → FrameT ops.toList a a' → (K s').holds G → Q .normal a' w')
    (hp : ∀ v u s' a' w' h' θ', SRel E n0 w0 h0 h' θ' s' a' w' → Rep h' θ' v u → Later h θ s a h' θ' s' a' → FrameT ops.toList a a' → (Kp v s').holds G → Q (.panic [{ v := u, recovered := false }]) a' w') : (Code.region id ops draw).wp E.P Q a w := by
  unfold evRegionP evRegion at e
  rcases holds_bif (H := fun t => t.holds G) e with ⟨rfl, e⟩ | ⟨rfl, e⟩
  · obtain ⟨hd, e⟩ := holds_need (Closed.holds G) e
    refine wpIn_wide.1 (wpIn_region_any (F := FW none) (n := 0) ok.mixed (wpAnyIn_frame _ _ _ _ (FrameT.refl ops.toList a) ?_))
    obtain ⟨h2, hle2, I2⟩ := R.inv.freezeM (frzL ops.toList (beforeL [] ops.toList) s.T s.M 0 ops.toList)
    refine outer (r := none) ok (Closed.holds G) hc hd (h1 := h) (θ1 := θ) (s1 := s) (a1 := a) (fun s' a' w' h' θ' R' L' e' hf => hn s' a' w' h' θ' R' L' (hf (by simp)) e') (Kp := fun v M κ => Kp v ⟨junkT ops.toList s.T, M, κ, s.n⟩) (fun v u M' κ' s' a' w' h' θ' I' ru L' hκ e' hf => hp v u _ a' w' h' θ' (junk_rel R I' L'.hh L'.ht (hf (by simp))) ru ⟨L'.hh, L'.ht, Nat.le_trans L'.κ hκ, rfl, L'.d⟩ (hf (by simp)) e') ops.size 0 _ (s.pre ops.toList (beforeL [] ops.toList) 0 ops.toList) a _ h2 θ (Nat.zero_le _) (Lst.init ops) (Nat.le_refl _) ⟨I2.drawn _, R.tmps.mono hle2 (.refl _), R.size⟩ ⟨hle2, .refl _, Nat.le_refl _, rfl, rfl⟩ (storesL ops.toList (beforeL [] ops.toList) s.T 0 s.κ 0 ops.toList) ?_
    exact e
  · refine wpIn_wide.1 (wpIn_region (F := FW none) (n := 0) (wpOpsIn_frame _ _ _ (FrameT.refl ops.toList a) ?_))
    have := evOps_ok (r := none) ok (Closed.holds G) hc (Q := framed ops.toList a Q) ops.toList 0 (by simp) R e (fun s' a' w' h' θ' R' hh ht hκ hsn hd e' hf => hn s' a' w' h' θ' R' ⟨hh, ht, hκ, hsn, hd⟩ (hf (by simp)) e') (Kp := fun v M κ => Kp v ⟨junkT ops.toList s.T, M, κ, s.n⟩) (fun v u M' κ' a' w' h' θ' I' ru hh ht hκ hd e' hf => hp v u _ a' w' h' θ' (junk_rel R I' hh ht (hf (by simp))) ru ⟨hh, ht, hκ, rfl, hd⟩ (hf (by simp)) e')
    rw [List.range_eq_range']
    simpa using this
theorem regionA_ok (ok : EnvOk E) (G : Goal) {hk : Hooks} (hc : HooksOk E n0 w0 h0 (fun t => t.holds G) hk) {id : Nat} {ops : Array Oper} {s : St} {K : St → Tree} {Kp : SV → St → Tree} {a : Act} {Q : Exit → Act → World → Prop} (R : SRel E n0 w0 h0 h θ s a w) (e : (evRegionA E hk ops s K Kp).holds G)
    (hn : ∀ s' a' w' h' θ', SRel E n0 w0 h0 h' θ' s' a' w' → Later h θ s a h' θ' s' a' → FrameT ops.toList a a' → (K s').holds G → Q .normal a' w')
    (hp : ∀ v u s' a' w' h' θ', SRel E n0 w0 h0 h' θ' s' a' w' → Rep h' θ' v u → Later h θ s a h' θ' s' a' → FrameT ops.toList a a' → (Kp v s').holds G → Q (.panic [{ v := u, recovered := false }]) a' w') : (Code.region id ops true).wp E.P Q a w := by
  refine wpIn_wide.1 (wpIn_region_any (F := FW none) (n := 0) ok.mixed (wpAnyIn_frame _ _ _ _ (FrameT.refl ops.toList a) ?_))
  exact evAny_ok ok G hc (Q := framed ops.toList a Q) (hh0 := h) (θ0 := θ) (s0 := s) (a0 := a) (fun s' a' w' h' θ' R' L' e' hf => hn s' a' w' h' θ' R' L' (hf (by simp)) e') (fun v u M' κ' a' w' h' θ' I' ru hh ht hκ hd e' hf => hp v u _ a' w' h' θ' (junk_rel R I' hh ht (hf (by simp))) ru ⟨hh, ht, hκ, rfl, hd⟩ (hf (by simp)) e') ops.size _ s a _ h θ ⟨R.inv.drawn _, R.tmps, R.size⟩ (.refl _ _ _ _) e
end region

/-! contracts of functions that may panic -/
structure PSpec where
  α : Type
  run : List SV → Option (Bool × (Bool × α))
  enc : α → SV
  wf : α → Prop
  pan : SV
def PSpec.Post (S : PSpec) (h h' : Hp) (w w' : World) (x : Bool × S.α) (e : Ending) : Prop :=
  ∃ v, ((x.1 = true ∧ e = .returned v ∧ Rep h' Th0 (S.enc x.2) v ∧ S.wf x.2) ∨ (x.1 = false ∧ e = .panicked [{ v, recovered := false }] ∧ Rep h' Th0 S.pan v)) ∧ Below w.heap.size w w' ∧ h.le h' ∧ (∀ b o, h' b = some o → w'.heap[b]? = some o) ∧ (∀ b, b < w.heap.size → h' b = h b)
def PSpecOk (E : Env) (f : FuncId) (S : PSpec) : Prop :=
  ∀ svs x, S.run svs = some (true, x) → ∀ (h : Hp) (w : World) (us : List Value), (∀ b o, h b = some o → w.heap[b]? = some o) → GlobOk E h → RepL h Th0 svs us →
    Calls E.P f us.toArray w fun e w' => ∃ h', S.Post h h' w w' x e
def okP {α : Type} (wf : α → Prop) (p : Bool × α) : Prop := p.1 = true → wf p.2
def evCallP (S : PSpec) (args : List SV) (M : Mem) (κ : Nat) (K Kp : KT) : Tree := match liftL M args with
  | some args' => match S.run args' with
    | some (pre, x) => bif pre then Tree.letv (okP S.wf) x fun p => bif p.1 then K (S.enc p.2) (freezeM M (keysL args)) (κ + 1) else Kp S.pan (freezeM M (keysL args)) (κ + 1) else .fail
    | none => .fail
  | none => .fail
def evBodyQ (E : Env) (fn : Func) (run : Code → St → (Ex → St → Tree) → (SV → St → Tree) → Tree) (args : List SV) (M : Mem) (κ : Nat) (K Kp : SV → St → Tree) : Tree :=
  match fn.body with
  | some body => bif Nat.ble args.length fn.ntmps then run body ⟨initT args, M, κ, fn.ntmps⟩ (fun e s => match e with
    | .exit _ => .fail
    | _ => match resL E s fn.results.toList with
      | some vs => K (oneS vs) s
      | none => .fail) Kp
    else .fail
  | none => .fail
/-- code that may panic, called in place -/
def evCodeQ (E : Env) (PS : FuncId → Option PSpec) : Nat → Code → St → (Ex → St → Tree) → (SV → St → Tree) → Tree
  | 0, _, _, _, _ => .fail
  | n + 1, c, s, K, Kp => match c with
    | .skip | .label _ => K .normal s
    | .region _ ops draw => evRegionP E ⟨fun f args M κ K Kp => match PS f with
      | some S => evCallP S args M κ K Kp
      | none => match E.P.funcs[f]? with
        | some fn => evBodyQ E fn (evCodeQ E PS n) args M κ (fun v s => K v s.M s.κ) (fun v s => Kp v s.M s.κ)
        | none => .fail, fun _ _ _ _ _ _ => .fail⟩ ops draw s (K .normal) Kp
    | .seq a b => evCodeQ E PS n a s (fun e s => match e with
      | .normal => evCodeQ E PS n b s K Kp
      | e => K e s) Kp
    | .cond c a b => match opd s.T c with
      | .b true => evCodeQ E PS n a s K Kp
      | .b false => evCodeQ E PS n b s K Kp
      | .v (.bool q) => bif q then evCodeQ E PS n a s K Kp else evCodeQ E PS n b s K Kp
      | _ => .fail
    | .block id body => evCodeQ E PS n body s (fun e s => match e with
      | .exit i => bif Nat.beq i id then K .normal s else K (.exit i) s
      | e => K e s) Kp
    | .exit id => K (.exit id) s
    | .ret => K .ret s
    | _ => .fail
abbrev hooksQ (E : Env) (PS : FuncId → Option PSpec) (n : Nat) : Hooks := ⟨fun f args M κ K Kp => match PS f with
      | some S => evCallP S args M κ K Kp
      | none => match E.P.funcs[f]? with
        | some fn => evBodyQ E fn (evCodeQ E PS n) args M κ (fun v s => K v s.M s.κ) (fun v s => Kp v s.M s.κ)
        | none => .fail, fun _ _ _ _ _ _ => .fail⟩
def PSOk (E : Env) (PS : FuncId → Option PSpec) : Prop := ∀ f S, PS f = some S → PSpecOk E f S
section code
variable {E : Env} {n0 : Nat} {w0 : World} {h0 : Hp}
theorem callP_ok {PS : FuncId → Option PSpec} (po : PSOk E PS) {f : FuncId} {S : PSpec} (hS : PS f = some S) {G : Goal} {args : List SV} {M : Mem} {κ : Nat} {K Kp : KT} (e : (evCallP S args M κ K Kp).holds G) {h : Hp} {θ : Th} {w : World} {us : List Value} (I : Inv E n0 w0 h0 h θ M (fun k => κ ≤ k) w) (ru : RepL h θ args us) :
    Calls E.P f us.toArray w (CallPost E n0 w0 h0 h θ κ (fun r M' κ' => (K r M' κ').holds G) (fun r M' κ' => (Kp r M' κ').holds G)) := by
  unfold evCallP at e
  split at e
  · rename_i args' hl
    split at e
    · rename_i pre x hr
      obtain ⟨rfl, e⟩ := holds_need (Closed.holds G) e
      obtain ⟨h1, hle, I1⟩ := I.freezeM (keysL args)
      have rl : RepL h1 Th0 args' us := (liftL_rep hl (by
          have mono : ∀ {ss : List SV} {vs : List Value}, RepL h θ ss vs → RepL h1 θ ss vs := fun r => r.mono hle (.refl _)
          exact mono ru) I1.lies).kf (liftL_kf hl)
      have hg : GlobOk E h1 := fun g cs e => by
        obtain ⟨vs, ty, fz, e1, r⟩ := I1.glob g cs e
        exact ⟨vs, ty, fz, I1.hle _ _ e1, r.mono I1.hle (.refl _)⟩
      refine (po f S hS args' x hr h1 w us I1.agree hg rl).mono fun en w' ⟨h2, v, hv, hb, hle2, hag, hsame⟩ => ?_
      have I2 := I1.call hb hle2 hag hsame
      have I3 : Inv E n0 w0 h0 h2 θ (freezeM M (keysL args)) (fun k => κ + 1 ≤ k) w' := I2.less (fun _ _ e => e) (fun k hk => by omega)
      rcases hv with ⟨hx, he, rv, wf⟩ | ⟨hx, he, rv⟩
      · have e := e x rfl (fun _ => wf)
        simp only [hx, cond_true] at e
        exact ⟨v, S.enc x.2, _, κ + 1, h2, θ, .inl ⟨he, e⟩, hle.trans hle2, .refl _, by omega, I3, rv.mono (.refl _) (Th0.le θ)⟩
      · have e := e x rfl (fun q => by rw [hx] at q; cases q)
        simp only [hx, cond_false] at e
        exact ⟨v, S.pan, _, κ + 1, h2, θ, .inr ⟨he, e⟩, hle.trans hle2, .refl _, by omega, I3, rv.mono (.refl _) (Th0.le θ)⟩
    · exact e.elim
  · exact e.elim
def CodeOkQ (E : Env) (PS : FuncId → Option PSpec) (n0 : Nat) (w0 : World) (h0 : Hp) (n : Nat) : Prop :=
  ∀ (G : Goal) (c : Code) (s : St) (K : Ex → St → Tree) (Kp : SV → St → Tree) (a : Act) (w : World) (h : Hp) (θ : Th) (Q : Exit → Act → World → Prop), SRel E n0 w0 h0 h θ s a w → (evCodeQ E PS n c s K Kp).holds G →
    (∀ e s' a' w' h' θ', SRel E n0 w0 h0 h' θ' s' a' w' → Later h θ s a h' θ' s' a' → (K e s').holds G → Q (exT e) a' w') →
    (∀ v u s' a' w' h' θ', SRel E n0 w0 h0 h' θ' s' a' w' → Rep h' θ' v u → Later h θ s a h' θ' s' a' → (Kp v s').holds G → Q (.panic [{ v := u, recovered := false }]) a' w') → c.wp E.P Q a w
theorem hooksQ_ok {PS : FuncId → Option PSpec} (po : PSOk E PS) {n : Nat} (hc : CodeOkQ E PS n0 w0 h0 n) (G : Goal) : HooksOk E n0 w0 h0 (fun t => t.holds G) (hooksQ E PS n) :=
  ⟨fun f args M κ K Kp e h θ w us I ru => by
    simp only [hooksQ] at e
    cases hS : PS f with
    | some S => rw [hS] at e; exact callP_ok po hS e I ru
    | none =>
      rw [hS] at e
      simp only at e
      cases hf : E.P.funcs[f]? with
      | none => simp only [hf] at e; exact e.elim
      | some fn =>
        simp only [hf] at e
        unfold evBodyQ at e
        split at e
        · rename_i body hbody
          obtain ⟨hle, e⟩ := holds_need (Closed.holds G) e
          have hle : args.length ≤ fn.ntmps := Nat.le_of_ble_eq_true hle
          have hlen : us.length = args.length := (repL_length ru)
          refine calls_of_wp hf hbody ?_
          refine hc G body ⟨initT args, M, κ, fn.ntmps⟩ _ _ { tmps := us.toArray ++ Array.replicate (fn.ntmps - us.toArray.size) undef, defers := [] } w h θ _ ⟨I, initT_rep _ ru, by simp; omega⟩ e (fun ex s' a' w' h' θ' R L eK => ?_) (fun v u s' a' w' h' θ' R rv L eK => ?_)
          · have fin : (match resL E s' fn.results.toList with | some vs => K (oneS vs) s'.M s'.κ | none => .fail : Tree).holds G → bodyPost E.P fn (CallPost E n0 w0 h0 h θ κ (fun r M' κ' => (K r M' κ').holds G) (fun r M' κ' => (Kp r M' κ').holds G)) .normal a' w' := fun eK => by
              split at eK
              · rename_i vs hr
                obtain ⟨u, h1, h2⟩ := result_ok R.inv R.tmps hr
                exact ⟨L.d, u, h1, u, _, s'.M, s'.κ, h', θ', .inl ⟨rfl, eK⟩, L.hh, L.ht, L.κ, R.inv, h2⟩
              · exact eK.elim
            cases ex with
            | normal => exact fin eK
            | ret => exact fin eK
            | exit i => exact eK.elim
          · exact ⟨L.d, u, v, s'.M, s'.κ, h', θ', .inr ⟨rfl, eK⟩, L.hh, L.ht, L.κ, R.inv, rv⟩
        · exact e.elim,
   fun key args M κ K Kp e => e.elim⟩
theorem codeQ_ok (ok : EnvOk E) {PS : FuncId → Option PSpec} (po : PSOk E PS) : ∀ n, CodeOkQ E PS n0 w0 h0 n
  | 0 => fun G c s K Kp a w h θ Q R e hk hp => e.elim
  | n + 1 => fun G c s K Kp a w h θ Q R e hk hp => by
    have ih := codeQ_ok ok po n
    cases c <;> simp only [evCodeQ] at e <;> first | exact e.elim | skip
    case skip => exact wp_skip (hk .normal s a w h θ R (.refl _ _ _ _) e)
    case label l => exact wp_label (hk .normal s a w h θ R (.refl _ _ _ _) e)
    case exit id => exact wp_exit (hk (.exit id) s a w h θ R (.refl _ _ _ _) e)
    case ret => exact wp_ret (hk .ret s a w h θ R (.refl _ _ _ _) e)
    case region id ops draw =>
      exact regionP_ok ok G (hooksQ_ok po ih G) R e (fun s' a' w' h' θ' R' L' _ e' => hk .normal s' a' w' h' θ' R' L' e') (fun v u s' a' w' h' θ' R' rv L' _ e' => hp v u s' a' w' h' θ' R' rv L' e')
    case seq x y =>
      refine wp_seq (ih G x s _ _ a w h θ _ R e (fun ex s' a' w' h' θ' R' L' e' => ?_) (fun v u s' a' w' h' θ' R' rv L' e' => hp v u s' a' w' h' θ' R' rv L' e'))
      cases ex with
      | normal => exact ih G y s' K Kp a' w' h' θ' Q R' e' (fun e2 s2 a2 w2 h2 θ2 R2 L2 e2' => hk e2 s2 a2 w2 h2 θ2 R2 (L'.trans L2) e2') (fun v u s2 a2 w2 h2 θ2 R2 rv L2 e2' => hp v u s2 a2 w2 h2 θ2 R2 rv (L'.trans L2) e2')
      | exit i => exact hk (.exit i) s' a' w' h' θ' R' L' e'
      | ret => exact hk .ret s' a' w' h' θ' R' L' e'
    case cond c x y =>
      have r := opd_rep R.tmps c
      split at e
      · rename_i hq
        rw [hq] at r
        have hv : a.eval c = .bool true := by generalize a.eval c = u at r; cases r; rfl
        exact wp_cond_true hv (ih G x s K Kp a w h θ Q R e hk hp)
      · rename_i hq
        rw [hq] at r
        have hv : a.eval c = .bool false := by generalize a.eval c = u at r; cases r; rfl
        exact wp_cond_false hv (ih G y s K Kp a w h θ Q R e hk hp)
      · rename_i q hq
        rw [hq] at r
        have hv : a.eval c = .bool q := by generalize a.eval c = u at r; cases r; rfl
        refine wp_cond hv ?_
        rcases holds_bif (H := fun t => t.holds G) e with ⟨rfl, e⟩ | ⟨rfl, e⟩
        · exact ih G x s K Kp a w h θ Q R e hk hp
        · exact ih G y s K Kp a w h θ Q R e hk hp
      · exact e.elim
    case block id body =>
      refine wp_block (ih G body s _ _ a w h θ _ R e (fun ex s' a' w' h' θ' R' L' e' => ?_) (fun v u s' a' w' h' θ' R' rv L' e' => hp v u s' a' w' h' θ' R' rv L' e'))
      cases ex with
      | normal => exact hk .normal s' a' w' h' θ' R' L' e'
      | exit i =>
        simp only [exT, Exit.inBlock]
        rcases holds_bif (H := fun t => t.holds G) e' with ⟨hi, e'⟩ | ⟨hi, e'⟩
        · rw [if_pos (Nat.eq_of_beq_eq_true hi)]
          exact hk .normal s' a' w' h' θ' R' L' e'
        · rw [if_neg (fun h => by subst h; rw [Nat.beq_refl] at hi; cases hi)]
          exact hk (.exit i) s' a' w' h' θ' R' L' e'
      | ret => exact hk .ret s' a' w' h' θ' R' L' e'
end code
end Go.Proofs.YtchljgmcempedaaGreatDoor
