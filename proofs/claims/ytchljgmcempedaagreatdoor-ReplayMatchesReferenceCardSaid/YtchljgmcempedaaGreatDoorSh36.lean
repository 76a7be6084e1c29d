/- Functions that may panic, with one deferred call that recovers (nothing is claimed here). -/
import Derived.Test.YtchljgmcempedaaGreatDoorSh35
set_option linter.unusedVariables false
set_option linter.unusedSimpArgs false
namespace Go.Proofs.YtchljgmcempedaaGreatDoor
open Go Go.RowKit

/-- the loops' tables; the regions that are walked in every order; the slots whose values the deferred function has captured -/
structure Cfg where
  L : Nat → Option (St → LoopSpec)
  X : Nat → Bool
  ds : List Nat
def sameLoc : SV → SV → Bool
  | .loc k a b c, .loc k' a' b' c' => Nat.beq k k' && (Nat.beq a a' && (Nat.beq b b' && Nat.beq c c'))
  | _, _ => false
def sameLocs : List SV → List SV → Bool
  | [], [] => true
  | a :: r, b :: r' => sameLoc a b && sameLocs r r'
  | _, _ => false
def asDefer : List Oper → Option (Oper × Tmp)
  | [o1, o2] => match o2.op, o2.guard, o2.dst with
    | .defer c, none, none => match c.callee, c.args.toList with
      | .value (.tmp t), [] => some (o1, t)
      | _, _ => none
    | _, _, _ => none
  | _ => none
def freeL (ops : List Oper) (ds : List Nat) : Bool := ds.all fun t => !wroteL ops t
def freeD (ops : List Oper) (ds : List Nat) : Option FuncId → Bool
  | none => true
  | some _ => freeL ops ds
def sameD : Option FuncId → Option FuncId → Bool
  | none, none => true
  | some f, some g => Nat.beq f g
  | _, _ => false
abbrev hooksN : Hooks := ⟨fun _ _ _ _ _ _ => .fail, fun _ _ _ _ _ _ => .fail⟩
/-- code that may panic, its loops by what they keep, one call deferred -/
def evCodeP (E : Env) (PS : FuncId → Option PSpec) (C : Cfg) : Nat → List Nat → Nat → Code → St → Option FuncId → (Ex → St → Option FuncId → Tree) → (SV → St → Option FuncId → Tree) → Tree
  | 0, _, _, _, _, _, _, _ => .fail
  | n + 1, lv, bid, c, s, D, K, Kp => match c with
    | .skip | .label _ => K .normal s D
    | .region id ops draw => match asDefer ops.toList with
      | some (o1, t) => bif draw then .fail else evOp E hooksN true ops o1 s.M s (fun s1 => match D, s1.T t with
        | none, .fn (.func f) [] caps => bif sameLocs caps (C.ds.map s1.T) && E.callee f then K .normal s1 (some f) else .fail
        | _, _ => .fail) noK
      | none => bif freeD ops.toList C.ds D then (bif C.X id then (bif draw then evRegionA E (hooksQ E PS n) ops s (fun s => K .normal s D) (fun v s => Kp v s D) else .fail) else evRegionP E (hooksQ E PS n) ops draw s (fun s => K .normal s D) (fun v s => Kp v s D)) else .fail
    | .seq a b => evCodeP E PS C n lv bid a s D (fun e s D => match e with
      | .normal => evCodeP E PS C n lv bid b s D K Kp
      | e => K e s D) Kp
    | .cond c a b => match opd s.T c with
      | .b true => evCodeP E PS C n lv bid a s D K Kp
      | .b false => evCodeP E PS C n lv bid b s D K Kp
      | .v (.bool q) => bif q then evCodeP E PS C n lv bid a s D K Kp else evCodeP E PS C n lv bid b s D K Kp
      | _ => .fail
    | .block id body => evCodeP E PS C n lv id body s D (fun e s D => match e with
      | .exit i => bif Nat.beq i id then K .normal s D else K (.exit i) s D
      | e => K e s D) Kp
    | .scope body => evCodeP E PS C n lv bid body s D K Kp
    | .loop body => match C.L bid with
      | some S => bif lv.elem bid then .fail else match canon (S s) (fixN (S s).nils s) with
        | some (vs, bs) => .loop bid (S s) vs bs fun x => evCodeP E PS C n (bid :: lv) bid body (absS (S s) ((S s).vals x) ((S s).blks x) s.n) D (fun e s' D' => match e with
          | .normal => bif sameD D D' then (match canon (S s) (fixN (S s).nils s') with
            | some (vs, bs) => .next bid vs bs
            | none => .fail) else .fail
          | e => K e s' D') Kp
        | none => .fail
      | none => .fail
    | .exit id => K (.exit id) s D
    | .ret => K .ret s D
    | _ => .fail

/-! the deferred function -/
def evOpX (E : Env) (ops : Array Oper) (o : Oper) (s : St) (K : St → Tree) : Tree := match o.guard, o.op with
  | none, .binOp .neq t x (.const .nilIface) _ => match E.P.underlying t with
    | some (.interface _) => match opd s.T x with
      | .v .nilIface => putK s.n s.T o.dst (.b false) fun T => K ⟨T, s.M, s.κ, s.n⟩
      | .v (.iface _ _) => putK s.n s.T o.dst (.b true) fun T => K ⟨T, s.M, s.κ, s.n⟩
      | _ => .fail
    | _ => .fail
  | none, .typeAssert x _ t true => match opd s.T x, E.P.underlying t with
    | .v (.iface t' (.agg ⟨[]⟩)), some (.struct _) => bif Nat.beq t' t then putK s.n s.T o.dst (.tup [.agg [], .b true]) fun T => K ⟨T, s.M, s.κ, s.n⟩ else .fail
    | _, _ => .fail
  | none, .store t a x => bif Nat.beq (sizeT E t) 0 then (match opd s.T a, opd s.T x with
    | .loc _ _ _ _, .agg [] => bif (E.P.info? t).isSome then putK s.n s.T o.dst .undef fun T => K ⟨T, s.M, s.κ, s.n⟩ else .fail
    | _, _ => .fail) else evOp E hooksN true ops o s.M s K noK
  | _, _ => evOp E hooksN true ops o s.M s K noK
def evOpsX (E : Env) (ops : Array Oper) : List Oper → St → (St → Tree) → Tree
  | [], s, K => K s
  | o :: r, s, K => evOpX E ops o s fun s => evOpsX E ops r s K
def evCodeX (E : Env) : Nat → Code → St → (Ex → St → Tree) → Tree
  | 0, _, _, _ => .fail
  | n + 1, c, s, K => match c with
    | .skip | .label _ => K .normal s
    | .region _ ops draw => bif draw then .fail else evOpsX E ops ops.toList s (K .normal)
    | .seq a b => evCodeX E n a s fun e s => match e with
      | .normal => evCodeX E n b s K
      | e => K e s
    | .cond c a b => match opd s.T c with
      | .b true => evCodeX E n a s K
      | .b false => evCodeX E n b s K
      | .v (.bool q) => bif q then evCodeX E n a s K else evCodeX E n b s K
      | _ => .fail
    | .exit id => K (.exit id) s
    | .ret => K .ret s
    | _ => .fail
/-- the function that is deferred: it begins by what it recovers -/
def evDfr (E : Env) (n : Nat) (fn : Func) (args : List SV) (pv : SV) (M : Mem) (κ : Nat) (K : Mem → Nat → Tree) : Tree := match fn.body, fn.results.toList with
  | some (.seq (.region _ ops false) rest), [] => match ops.toList with
    | [o1, o2] => match o1.op, o1.guard, o1.dst, o2.op, o2.guard, o2.dst with
      | .call c, none, some d, .assign (.tmp x), none, some d2 => match c.callee with
        | .builtin .recover => bif Nat.beq x d && (Nat.ble args.length fn.ntmps && (Nat.blt d fn.ntmps && Nat.blt d2 fn.ntmps)) then
            evCodeX E n rest ⟨Tmps.put (Tmps.put (initT args) (some d) pv) (some d2) pv, M, κ, fn.ntmps⟩ fun e s => match e with
              | .exit _ => .fail
              | _ => K s.M s.κ
          else .fail
        | _ => .fail
      | _, _, _, _, _, _ => .fail
    | _ => .fail
  | _, _ => .fail
def pvS : Option SV → SV
  | none => .v .nilIface
  | some v => v
def panT (v : SV) : Tree := bif kf1 v then .next 4242 [v] [] else .fail
/-- behind a function's code -/
def finD (E : Env) (n : Nat) (C : Cfg) (fn : Func) (pv : Option SV) (s : St) : Option FuncId → Tree
  | none => match pv with
    | none => finR E fn s
    | some v => panT v
  | some f => bif E.callee f then (match E.P.funcs[f]? with
    | some fd => evDfr E n fd (C.ds.map s.T) (pvS pv) s.M s.κ fun M κ => finR E fn ⟨s.T, M, κ, s.n⟩
    | none => .fail) else .fail
/-- the tree of a call -/
def evFP (E : Env) (PS : FuncId → Option PSpec) (C : Cfg) (n : Nat) (f : FuncId) (args : List SV) : Tree := match E.P.funcs[f]? with
  | some fn => match fn.body with
    | some body => bif Nat.ble args.length fn.ntmps then evCodeP E PS C n [4242] 0 body ⟨initT args, fun _ => none, 0, fn.ntmps⟩ none
        (fun e s D => match e with
          | .exit _ => .fail
          | _ => finD E n C fn none s D) (fun v s D => finD E n C fn (some v) s D)
      else .fail
    | none => .fail
  | none => .fail

section code
variable {E : Env} {n0 : Nat} {w0 : World} {h0 : Hp}
theorem hooksN_ok (G : Goal) : HooksOk E n0 w0 h0 (fun t => t.holds G) hooksN := ⟨fun f args M κ K Kp e => e.elim, fun key args M κ K Kp e => e.elim⟩
def dfrOf (ds : List Nat) (f : FuncId) (a : Act) : Deferred := { target := .fn (.func f) (ds.map fun t => a.tmps.getD t undef).toArray, args := #[] }
/-- what is deferred -/
def DOk (ds : List Nat) (a : Act) : Option FuncId → Prop
  | none => a.defers = []
  | some f => a.defers = [dfrOf ds f a]
theorem DOk.frame {ops : List Oper} {ds : List Nat} {D : Option FuncId} {a a' : Act} (d : DOk ds a D) (hf : FrameT ops a a') (hd : a'.defers = a.defers) (hr : freeD ops ds D = true) : DOk ds a' D := by
  cases D with
  | none => exact hd.trans (show a.defers = [] from d)
  | some f =>
    show a'.defers = [dfrOf ds f a']
    rw [hd, show a.defers = [dfrOf ds f a] from d]
    have : ds.map (fun t => a.tmps.getD t undef) = ds.map (fun t => a'.tmps.getD t undef) := List.map_congr_left fun t ht => by
      have := List.all_eq_true.1 hr t ht
      exact (hf.2 t (by simpa using this)).symm
    simp only [dfrOf, this]
theorem sameD_eq : ∀ {D D' : Option FuncId}, sameD D D' = true → D = D'
  | none, none, _ => rfl
  | some f, some g, h => by rw [Nat.eq_of_beq_eq_true h]
  | none, some g, h => by cases h
  | some f, none, h => by cases h
theorem sameLoc_inv {s s' : SV} (e : sameLoc s s' = true) : ∃ k a b c, s = .loc k a b c ∧ s' = .loc k a b c := by
  unfold sameLoc at e
  split at e
  · simp only [Bool.and_eq_true] at e
    obtain ⟨q1, q2, q3, q4⟩ := e
    exact ⟨_, _, _, _, rfl, by rw [Nat.eq_of_beq_eq_true q1, Nat.eq_of_beq_eq_true q2, Nat.eq_of_beq_eq_true q3, Nat.eq_of_beq_eq_true q4]⟩
  · cases e
theorem sameLocs_eq {h : Hp} {θ : Th} {T : Tmps} {tm : Array Value} (hT : RepT h θ T tm) : ∀ {caps : List SV} {ds : List Nat} {ys : List Value}, sameLocs caps (ds.map T) = true → RepL h θ caps ys → ys = ds.map fun t => tm.getD t undef
  | [], [], ys, e, r => r.nil_inv
  | [], _ :: _, ys, e, r => by cases e
  | _ :: _, [], ys, e, r => by cases e
  | s :: caps, t :: ds, ys, e, r => by
    obtain ⟨v, ys', rfl, r1, r2⟩ := r.cons_inv
    simp only [List.map_cons, sameLocs, Bool.and_eq_true] at e
    have h2 := sameLocs_eq hT (ds := ds) e.2 r2
    have h1 : v = tm.getD t undef := by
      have rt := hT t
      have e1 := e.1
      generalize T t = s' at e1 rt
      generalize tm.getD t undef = v' at rt
      obtain ⟨k, p, q, c, rfl, rfl⟩ := sameLoc_inv e1
      cases r1 with
      | loc _ _ _ _ id et _ =>
        cases rt with
        | loc _ _ _ _ id' et' _ =>
          rw [et] at et'
          simp only [Option.some.injEq, Prod.mk.injEq] at et'
          obtain ⟨_, rfl⟩ := et'
          rfl
    simp only [List.map_cons, h1, h2]
theorem asDefer_some {ops : List Oper} {o1 : Oper} {t : Tmp} (e : asDefer ops = some (o1, t)) : ∃ o2 c, ops = [o1, o2] ∧ o2.op = .defer c ∧ o2.guard = none ∧ o2.dst = none ∧ c.callee = .value (.tmp t) ∧ c.args.toList = [] := by
  unfold asDefer at e
  split at e
  · rename_i p1 p2
    split at e
    · rename_i c h1 h2 h3
      split at e
      · rename_i t' h4 h5
        simp only [Option.some.injEq, Prod.mk.injEq] at e
        obtain ⟨rfl, rfl⟩ := e
        exact ⟨p2, c, rfl, h1, h2, h3, h4, h5⟩
      · cases e
    · cases e
  · cases e
theorem wanted_none {o : Oper} (h : o.guard = none) (y : Nat → Option Bool) : Region.wanted o y = true := by simp [Region.wanted, h]
def CodeOkP (E : Env) (PS : FuncId → Option PSpec) (C : Cfg) (n0 : Nat) (w0 : World) (h0 : Hp) (n : Nat) : Prop :=
  ∀ (lv : List Nat) (bid : Nat) (G : Goal) (c : Code) (s : St) (D : Option FuncId) (K : Ex → St → Option FuncId → Tree) (Kp : SV → St → Option FuncId → Tree) (a : Act) (w : World) (h : Hp) (θ : Th) (Q : Exit → Act → World → Prop), SRel E n0 w0 h0 h θ s a w → DOk C.ds a D → (evCodeP E PS C n lv bid c s D K Kp).holds G →
    (∀ e s' D' a' w' h' θ' G2, agree lv G G2 → SRel E n0 w0 h0 h' θ' s' a' w' → DOk C.ds a' D' → s'.n = s.n → (K e s' D').holds G2 → Q (exT e) a' w') →
    (∀ v u s' D' a' w' h' θ' G2, agree lv G G2 → SRel E n0 w0 h0 h' θ' s' a' w' → Rep h' θ' v u → DOk C.ds a' D' → s'.n = s.n → (Kp v s' D').holds G2 → Q (.panic [{ v := u, recovered := false }]) a' w') → c.wp E.P Q a w
theorem codeP_ok (ok : EnvOk E) {PS : FuncId → Option PSpec} (po : PSOk E PS) (C : Cfg) : ∀ n, CodeOkP E PS C n0 w0 h0 n
  | 0 => fun lv bid G c s D K Kp a w h θ Q R d e hk hp => e.elim
  | n + 1 => fun lv bid G c s D K Kp a w h θ Q R d e hk hp => by
    have ih := codeP_ok ok po C n
    cases c <;> simp only [evCodeP] at e <;> first | exact e.elim | skip
    case skip => exact wp_skip (hk .normal s D a w h θ G (.refl _ _) R d rfl e)
    case label l => exact wp_label (hk .normal s D a w h θ G (.refl _ _) R d rfl e)
    case exit id => exact wp_exit (hk (.exit id) s D a w h θ G (.refl _ _) R d rfl e)
    case ret => exact wp_ret (hk .ret s D a w h θ G (.refl _ _) R d rfl e)
    case region id ops draw =>
      split at e
      · rename_i o1 t hD
        cases draw with
        | true => exact e.elim
        | false =>
          simp only [cond_false] at e
          obtain ⟨o2, c, hops, h1, h2, h3, h4, h5⟩ := asDefer_some hD
          have hsz : ops.size = 2 := by rw [← Array.length_toList, hops]; rfl
          have g0 : ops[0]? = some o1 := by rw [← Array.getElem?_toList, hops]; rfl
          have g1 : ops[1]? = some o2 := by rw [← Array.getElem?_toList, hops]; rfl
          refine wpIn_wide.1 (wpIn_region (F := FW none) (n := 0) ?_)
          rw [hsz]
          show wpOpsIn (FW none) 0 E.P ops Q [0, 1] a w
          have key := evOp_ok (r := none) ok (Closed.holds G) (hooksN_ok G) (Q := Q) R e (next := wpOpsIn (FW none) 0 E.P ops Q [1]) (fun s' a' w' h' θ' R' hh ht hκ hsn hd e' => ?_) (fun v u M' κ' w' h' θ' I' ru hh ht hκ e' => False.elim e')
          · simp only [wpOpsIn, g0] at key ⊢
            rcases key with ⟨hw, hwp⟩ | ⟨hw, hnx⟩
            · rw [if_pos hw]; exact hwp
            · rw [if_neg (by rw [hw]; simp)]; exact ⟨fun _ _ => trivial, hnx⟩
          · cases D with
            | some f => exact e'.elim
            | none =>
              split at e'
              · rename_i f caps hq hfn
                obtain ⟨hb, e'⟩ := holds_need (Closed.holds G) e'
                simp only [Bool.and_eq_true] at hb
                have rt := R'.tmps t
                rw [hfn] at rt
                obtain ⟨ys, hv, rys⟩ : ∃ ys, a'.tmps.getD t undef = .func (.func f) #[] ys.toArray ∧ RepL h' θ' caps ys := by
                  generalize a'.tmps.getD t undef = v at rt
                  cases rt with
                  | fn _ _ _ xs ys r1 r2 =>
                    have := r1.nil_inv
                    subst this
                    exact ⟨ys, rfl, r2⟩
                have hys := sameLocs_eq R'.tmps hb.1 rys
                have hc : c.args = #[] := by
                  apply Array.ext'; simpa using h5
                have hrun : (execOp a'.eval o2).run E.P w' = .ok (.defer (dfrOf C.ds f a')) w' := by
                  simp only [execOp, h1, resolve, h4, hc, Act.eval, hv, Deferred.ofValue, Sem.run_bind, Sem.run_pure, Result.andThen_ok, dfrOf, hys]
                  simp
                simp only [wpOpsIn, g1]
                rw [if_pos (wanted_none h2 _)]
                refine ⟨fun _ _ => trivial, ?_⟩
                rw [show o2.semAt (FW none).round a'.eval = execOp a'.eval o2 from rfl, hrun, Oper.uponIn_defer, h3]
                show Q .normal ({ a' with defers := dfrOf C.ds f a' :: a'.defers }) w'
                have hnil : a'.defers = [] := hd.trans d
                rw [hnil]
                exact hk .normal s' (some f) _ w' h' θ' G (.refl _ _) ⟨R'.inv, R'.tmps, R'.size⟩ rfl hsn e'
              · exact e'.elim
      · obtain ⟨hfr, e⟩ := holds_need (Closed.holds G) e
        rcases holds_bif (H := fun t => t.holds G) e with ⟨hX, e⟩ | ⟨hX, e⟩
        · cases draw with
          | false => exact e.elim
          | true =>
            simp only [cond_true] at e
            exact regionA_ok ok G (hooksQ_ok po (codeQ_ok ok po n) G) R e (fun s' a' w' h' θ' R' L' hf e' => hk .normal s' D a' w' h' θ' G (.refl _ _) R' (d.frame hf L'.d hfr) L'.n e') (fun v u s' a' w' h' θ' R' rv L' hf e' => hp v u s' D a' w' h' θ' G (.refl _ _) R' rv (d.frame hf L'.d hfr) L'.n e')
        · exact regionP_ok ok G (hooksQ_ok po (codeQ_ok ok po n) G) R e (fun s' a' w' h' θ' R' L' hf e' => hk .normal s' D a' w' h' θ' G (.refl _ _) R' (d.frame hf L'.d hfr) L'.n e') (fun v u s' a' w' h' θ' R' rv L' hf e' => hp v u s' D a' w' h' θ' G (.refl _ _) R' rv (d.frame hf L'.d hfr) L'.n e')
    case seq x y =>
      refine wp_seq (ih lv bid G x s D _ _ a w h θ _ R d e (fun ex s' D' a' w' h' θ' G2 hG R' d' hs e' => ?_) (fun v u s' D' a' w' h' θ' G2 hG R' rv d' hs e' => hp v u s' D' a' w' h' θ' G2 hG R' rv d' hs e'))
      cases ex with
      | normal => exact ih lv bid G2 y s' D' K Kp a' w' h' θ' Q R' d' e' (fun e2 s2 D2 a2 w2 h2 θ2 G3 hG3 R2 d2 hs2 e2' => hk e2 s2 D2 a2 w2 h2 θ2 G3 (hG.trans hG3) R2 d2 (hs2.trans hs) e2') (fun v u s2 D2 a2 w2 h2 θ2 G3 hG3 R2 rv d2 hs2 e2' => hp v u s2 D2 a2 w2 h2 θ2 G3 (hG.trans hG3) R2 rv d2 (hs2.trans hs) e2')
      | exit i => exact hk (.exit i) s' D' a' w' h' θ' G2 hG R' d' hs e'
      | ret => exact hk .ret s' D' a' w' h' θ' G2 hG R' d' hs e'
    case cond c x y =>
      have r := opd_rep R.tmps c
      split at e
      · rename_i hq
        rw [hq] at r
        have hv : a.eval c = .bool true := by generalize a.eval c = u at r; cases r; rfl
        exact wp_cond_true hv (ih lv bid G x s D K Kp a w h θ Q R d e hk hp)
      · rename_i hq
        rw [hq] at r
        have hv : a.eval c = .bool false := by generalize a.eval c = u at r; cases r; rfl
        exact wp_cond_false hv (ih lv bid G y s D K Kp a w h θ Q R d e hk hp)
      · rename_i q hq
        rw [hq] at r
        have hv : a.eval c = .bool q := by generalize a.eval c = u at r; cases r; rfl
        refine wp_cond hv ?_
        rcases holds_bif (H := fun t => t.holds G) e with ⟨rfl, e⟩ | ⟨rfl, e⟩
        · exact ih lv bid G x s D K Kp a w h θ Q R d e hk hp
        · exact ih lv bid G y s D K Kp a w h θ Q R d e hk hp
      · exact e.elim
    case block id body =>
      refine wp_block (ih lv id G body s D _ _ a w h θ _ R d e (fun ex s' D' a' w' h' θ' G2 hG R' d' hs e' => ?_) (fun v u s' D' a' w' h' θ' G2 hG R' rv d' hs e' => hp v u s' D' a' w' h' θ' G2 hG R' rv d' hs e'))
      cases ex with
      | normal => exact hk .normal s' D' a' w' h' θ' G2 hG R' d' hs e'
      | exit i =>
        simp only [exT, Exit.inBlock]
        rcases holds_bif (H := fun t => t.holds G2) e' with ⟨hi, e'⟩ | ⟨hi, e'⟩
        · rw [if_pos (Nat.eq_of_beq_eq_true hi)]
          exact hk .normal s' D' a' w' h' θ' G2 hG R' d' hs e'
        · rw [if_neg (fun h => by subst h; rw [Nat.beq_refl] at hi; cases hi)]
          exact hk (.exit i) s' D' a' w' h' θ' G2 hG R' d' hs e'
      | ret => exact hk .ret s' D' a' w' h' θ' G2 hG R' d' hs e'
    case scope body =>
      refine wp_scope_straight (ih lv bid G body s D _ _ a w h θ _ R d e (fun ex s' D' a' w' h' θ' G2 hG R' d' hs e' => ?_) (fun v u s' D' a' w' h' θ' G2 hG R' rv d' hs e' => ?_))
      · cases ex <;> exact hk _ s' D' a' w' h' θ' G2 hG R' d' hs e'
      · exact hp v u s' D' a' w' h' θ' G2 hG R' rv d' hs e'
    case loop body =>
      split at e
      · rename_i S' hL
        generalize S' s = S at e
        cases hlv : lv.elem bid with
        | true => rw [hlv] at e; exact e.elim
        | false =>
          rw [hlv] at e; simp only [cond_false] at e
          split at e
          · rename_i vs bs hc
            obtain ⟨hat, hround⟩ := e
            obtain ⟨x0, rfl, rfl, hinv, _⟩ := hat
            obtain ⟨θ0, R0⟩ := fixN_ok (l := S.nils) R
            obtain ⟨θ1, R1⟩ := canon_ok R0 hc
            rw [fixN_n] at R1
            have key : ∀ (m : Nat) (x : S.σ) (a1 : Act) (w1 : World) (h1 : Hp) (θ1 : Th), S.mu x < m → S.inv x → DOk C.ds a1 D → SRel E n0 w0 h0 h1 θ1 (absS S (S.vals x) (S.blks x) s.n) a1 w1 → Code.rounds E.P body Q m a1 w1 := by
              intro m
              induction m with
              | zero => intro x a1 w1 h1 θ1 hm; omega
              | succ m ihm =>
                intro x a1 w1 h1 θ1 hm hx hd1 R1
                rw [rounds_succ]
                refine ih (bid :: lv) bid _ body _ D _ _ a1 w1 h1 θ1 _ R1 hd1 (hround x hx) (fun ex s' D' a' w' h' θ' G2 hG R' d' hs e' => ?_) (fun v u s' D' a' w' h' θ' G2 hG R' rv d' hs e' => ?_)
                · have out : ∀ ex, ex ≠ .normal → (K ex s' D').holds G2 → Q (exT ex) a' w' := fun ex _ e' => hk ex s' D' a' w' h' θ' G2 ⟨hG.1, fun l hl => (hG.2 l (List.mem_cons_of_mem _ hl)).trans (by
                    funext vs' bs'
                    exact if_neg (mem_elem hlv hl))⟩ R' d' hs e'
                  cases ex with
                  | normal =>
                    simp only at e'
                    obtain ⟨hsd, e3⟩ := holds_need (Closed.holds G2) e'
                    clear e'
                    have hDD := sameD_eq hsd
                    subst hDD
                    split at e3
                    · rename_i vs' bs' hc'
                      have e2 : G2.n bid vs' bs' := e3
                      rw [hG.2 bid List.mem_cons_self] at e2
                      simp only [if_true] at e2
                      obtain ⟨y, rfl, rfl, hy, hmu⟩ := e2
                      obtain ⟨θ0, R0⟩ := fixN_ok (l := S.nils) R'
                      obtain ⟨θ2, R2⟩ := canon_ok R0 hc'
                      rw [fixN_n] at R2
                      have hsn : s'.n = s.n := hs
                      exact ihm y a' w' h' θ2 (by omega) hy d' (hsn ▸ R2)
                    · exact e3.elim
                  | exit i => exact out (.exit i) (by simp) e'
                  | ret => exact out .ret (by simp) e'
                · exact hp v u s' D' a' w' h' θ' G2 ⟨hG.1, fun l hl => (hG.2 l (List.mem_cons_of_mem _ hl)).trans (by
                    funext vs' bs'
                    exact if_neg (mem_elem hlv hl))⟩ R' rv d' hs e'
            exact wp_loop_rounds (S.mu x0 + 1) (key _ x0 a w h θ1 (by omega) hinv d R1)
          · exact e.elim
      · exact e.elim
end code
end Go.Proofs.YtchljgmcempedaaGreatDoor
