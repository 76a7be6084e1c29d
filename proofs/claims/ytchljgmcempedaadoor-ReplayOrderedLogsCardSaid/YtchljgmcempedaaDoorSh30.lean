/- Ranges over functions, by what their loops keep: definitions; a round's code (nothing is claimed here). -/
import Derived.Test.YtchljgmcempedaaDoorSh26
import Derived.RangeFuncIn
set_option linter.unusedVariables false
set_option linter.unusedSimpArgs false
namespace Go.Proofs.YtchljgmcempedaaDoor
open Go Go.RowKit

/-- code of a round -/
def evCodeR (E : Env) : Nat → Code → St → (Ex → St → Tree) → Tree
  | 0, _, _, _ => .fail
  | n + 1, c, s, K => match c with
    | .skip | .label _ => K .normal s
    | .region _ ops draw => evRegion E (hooks1 E n) ops draw s (K .normal) noK
    | .seq a b => evCodeR E n a s fun e s => match e with
      | .normal => evCodeR E n b s K
      | e => K e s
    | .cond c a b => match opd s.T c with
      | .b true => evCodeR E n a s K
      | .b false => evCodeR E n b s K
      | .v (.bool q) => bif q then evCodeR E n a s K else evCodeR E n b s K
      | _ => .fail
    | .block id body => evCodeR E n body s fun e s => match e with
      | .exit i => bif Nat.beq i id then K .normal s else K (.exit i) s
      | e => K e s
    | .exit id => K (.exit id) s
    | .ret => K .ret s
    | _ => .fail
/-- yield's arguments in the parameters -/
def putPs : Nat → Tmps → List Nat → List SV → Option Tmps
  | _, T, [], [] => some T
  | n, T, p :: ps, v :: vs => bif Nat.blt p n then putPs n (T.put (some p) v) ps vs else none
  | _, _, _, _ => none
/-- a round's end -/
def endR (key : Nat) (K : KT) (e : Ex) (s : St) : Tree := match s.M key with
  | some (.lp T ps as bd st pend) => match e with
    | .normal => K (.b true) (s.M.set key (.lp T ps as bd .ready none)) s.κ
    | .ret => K (.b false) (s.M.set key (.lp T ps as bd .done (some .ret))) s.κ
    | .exit i => K (.b false) (s.M.set key (.lp T ps as bd .done (some (.exit i)))) s.κ
  | _ => .fail
/-- a round -/
def evRound (E : Env) (n : Nat) (key : Nat) (args : List SV) (M : Mem) (κ : Nat) (K : KT) : Tree := match M key with
  | some (.lp T ps as bd .ready none) => match putPs T.length (initT T) ps.toList args with
    | some T1 => evCodeR E n as ⟨T1, M, κ, T.length⟩ fun e1 s1 => match e1 with
      | .normal => match s1.M key with
        | some (.lp T' ps' as' bd' .ready none) => evCodeR E n bd ⟨s1.T, s1.M.set key (.lp T' ps' as' bd' .busy none), s1.κ, s1.n⟩ (endR key K)
        | _ => .fail
      | _ => .fail
    | none => .fail
  | _ => .fail
abbrev hooksI (E : Env) (n : Nat) : Hooks := ⟨(hooks1 E n).call, fun key args M κ K _ => evRound E n key args M κ K⟩

/-- what a loop keeps, the keys D of open records and marks with it -/
def lpT (s : St) : List Nat → List SV
  | kl :: _ => match s.M kl with
    | some (.lp T _ _ _ _ _) => T
    | _ => []
  | [] => []
/-- a kept block's key: by a slot; from 1000 on by a slot of the open record; from 2000 on the row that the variable there holds -/
def keyD (s : St) (D : List Nat) (t : Nat) : Option Nat :=
  bif Nat.blt t 1000 then keyOf (s.T t) else bif Nat.blt t 2000 then keyOf ((lpT s D).getD (t - 1000) .junk) else match (lpT s D).getD (t - 2000) .junk with
    | .loc k _ _ _ => match s.M k with
      | some (.cells (c :: _) _) => keyOf c
      | _ => none
    | _ => none
def keysD (s : St) (D : List Nat) : List Nat → Option (List Nat)
  | [] => some []
  | t :: ts => (keyD s D t).bind fun k => (keysD s D ts).map (k :: ·)
def canonD (L : LoopSpec) (s : St) (D : List Nat) : Option (List SV × List Blk) :=
  (keysD s D L.keys).bind fun ks => bif nodupK (ks ++ D) then (valsOf (ks ++ D) s.T L.slots).bind fun vs => (blksOf (ks ++ D) s.M (ks ++ D)).map fun bs => (vs, bs) else none
def absD (L : LoopSpec) (vs : List SV) (bs : List Blk) (m n : Nat) : St := ⟨getT L.slots vs, getM bs, L.keys.length + m, n⟩
def shD (j m : Nat) : List Nat := (List.range m).map (j + ·)
/-- code of a function that is ranged over -/
def evCodeI (E : Env) (L : Nat → Option (St → LoopSpec)) : Nat → List Nat → Nat → Code → St → List Nat → (Ex → St → List Nat → Tree) → Tree
  | 0, _, _, _, _, _, _ => .fail
  | n + 1, lv, bid, c, s, D, K => match c with
    | .skip | .label _ => K .normal s D
    | .region _ ops draw => evRegion E (hooksI E n) ops draw s (fun s => K .normal s D) noK
    | .seq a b => evCodeI E L n lv bid a s D fun e s D => match e with
      | .normal => evCodeI E L n lv bid b s D K
      | e => K e s D
    | .cond c a b => match opd s.T c with
      | .b true => evCodeI E L n lv bid a s D K
      | .b false => evCodeI E L n lv bid b s D K
      | .v (.bool q) => bif q then evCodeI E L n lv bid a s D K else evCodeI E L n lv bid b s D K
      | _ => .fail
    | .block id body => evCodeI E L n lv id body s D fun e s D => match e with
      | .exit i => bif Nat.beq i id then K .normal s D else K (.exit i) s D
      | e => K e s D
    | .scope body => evCodeI E L n lv bid body s D K
    | .loop body => match L bid with
      | some S => bif lv.elem bid then .fail else match canonD (S s) s D with
        | some (vs, bs) => .loop bid (S s) vs bs fun x => evCodeI E L n (bid :: lv) bid body (absD (S s) ((S s).vals x) ((S s).blks x) D.length s.n) (shD (S s).keys.length D.length) fun e s' D' => match e with
          | .normal => match canonD (S s) s' D' with
            | some (vs, bs) => .next bid vs bs
            | none => .fail
          | e => K e s' D'
        | none => .fail
      | none => .fail
    | .exit id => K (.exit id) s D
    | .ret => K .ret s D
    | _ => .fail
def evBodyI (E : Env) (L : Nat → Option (St → LoopSpec)) (fn : Func) (n : Nat) (args : List SV) (M : Mem) (κ : Nat) (D : List Nat) (K : SV → St → List Nat → Tree) : Tree :=
  match fn.body with
  | some body => bif Nat.ble args.length fn.ntmps then evCodeI E L n [] 0 body ⟨initT args, M, κ, fn.ntmps⟩ D fun e s D => match e with
    | .exit _ => .fail
    | _ => match resL E s fn.results.toList with
      | some vs => K (oneS vs) s D
      | none => .fail
    else .fail
  | none => .fail
/-- behind the function that was ranged over -/
def endT (n : Nat) (K : Ex → St → Option Nat → Tree) (s : St) (D : List Nat) : Tree := match D with
  | [kl, kd] => match s.M kl with
    | some (.lp T ps as bd st pend) => match st with
      | .busy => .fail
      | _ => match pend with
        | none => K .normal ⟨initT T, s.M.del kl, s.κ, n⟩ (some kd)
        | some .ret => K .ret ⟨initT T, s.M.del kl, s.κ, n⟩ (some kd)
        | some (.exit i) => K (.exit i) ⟨initT T, s.M.del kl, s.κ, n⟩ (some kd)
        | _ => .fail
    | _ => .fail
  | _ => .fail
/-- variables that hold the nil slice hold rows of the call's own -/
def fixC : List (Nat × (ETy × TypeId)) → St → St
  | [], s => s
  | p :: r, s => match s.T p.1 with
    | .loc k 0 0 1 => match s.M k with
      | some (.cells [.v (.slice none 0 0)] ty) => fixC r ⟨s.T, (s.M.set s.κ (.row p.2.1 [] p.2.2)).set k (.cells [.own s.κ] ty), s.κ + 1, s.n⟩
      | _ => fixC r s
    | _ => fixC r s
def rngM (s : St) (ps : Array Tmp) (as bd : Code) : Mem := (s.M.set s.κ .dfr).set (s.κ + 1) (.lp ((List.range s.n).map s.T) ps as bd .ready none)
/-- code that may hold one range over a function; D: the mark's key -/
def evCodeT (E : Env) (L : Nat → Option (St → LoopSpec)) (N : List (Nat × (ETy × TypeId))) : Nat → Code → St → Option Nat → (Ex → St → Option Nat → Tree) → Tree
  | 0, _, _, _, _ => .fail
  | n + 1, c, s, D, K => match c with
    | .skip | .label _ => K .normal s D
    | .region _ ops draw => evRegion E (hooks1 E n) ops draw s (fun s => K .normal s D) noK
    | .seq a b => evCodeT E L N n a s D fun e s D => match e with
      | .normal => evCodeT E L N n b s D K
      | e => K e s D
    | .cond c a b => match opd s.T c with
      | .b true => evCodeT E L N n a s D K
      | .b false => evCodeT E L N n b s D K
      | .v (.bool q) => bif q then evCodeT E L N n a s D K else evCodeT E L N n b s D K
      | _ => .fail
    | .block id body => evCodeT E L N n body s D fun e s D => match e with
      | .exit i => bif Nat.beq i id then K .normal s D else K (.exit i) s D
      | e => K e s D
    | .scope body => evCodeT E L N n body s D K
    | .exit id => K (.exit id) s D
    | .ret => K .ret s D
    | .rangeFunc g ps as bd => match D, fixC N s with
      | some _, _ => .fail
      | none, s => match calleeS (opd s.T g) [.yld (s.κ + 1)] with
        | some (f, args) => bif E.callee f then match E.P.funcs[f]? with
          | some fn => evBodyI E L fn n args (rngM s ps as bd) (s.κ + 2) [s.κ + 1, s.κ] fun _ s' D' => endT s.n K s' D'
          | none => .fail
          else .fail
        | none => .fail
    | _ => .fail
/-- a call's end -/
def finR (E : Env) (fn : Func) (s : St) : Tree := match resL E s fn.results.toList with
  | some vs => match liftS s.M (oneS vs) with
    | some r => .leaf r
    | none => .fail
  | none => .fail
def finT (E : Env) (fn : Func) (e : Ex) (s : St) (D : Option Nat) : Tree := match e with
  | .exit _ => .fail
  | _ => match D with
    | none => finR E fn s
    | some kd => match s.M kd with
      | some .dfr => finR E fn ⟨s.T, s.M.del kd, s.κ, s.n⟩
      | _ => .fail
/-- the tree of a call -/
def evFM (E : Env) (L : Nat → Option (St → LoopSpec)) (N : List (Nat × (ETy × TypeId))) (n : Nat) (f : FuncId) (args : List SV) : Tree := match E.P.funcs[f]? with
  | some fn => match fn.body with
    | some body => bif Nat.ble args.length fn.ntmps then evCodeT E L N n body ⟨initT args, fun _ => none, 0, fn.ntmps⟩ none (finT E fn)
      else .fail
    | none => .fail
  | none => .fail

section codeR
variable {E : Env} {n0 : Nat} {w0 : World} {h0 : Hp} {Q' : Goal}
theorem codeR_ok (ok : EnvOk E) (r : Option Nat) : ∀ (n : Nat) (c : Code) (s : St) (K : Ex → St → Tree) (a : Act) (w : World) (h : Hp) (θ : Th) (Q : Exit → Act → World → Prop), SRel E n0 w0 h0 h θ s a w → (evCodeR E n c s K).holds Q' →
    (∀ e s' a' w' h' θ', SRel E n0 w0 h0 h' θ' s' a' w' → Later h θ s a h' θ' s' a' → (K e s').holds Q' → Q (exT e) a' w') → c.wpIn (FW r) 0 E.P Q a w
  | 0, c, s, K, a, w, h, θ, Q, R, e, hk => e.elim
  | n + 1, c, s, K, a, w, h, θ, Q, R, e, hk => by
    have ih := codeR_ok ok r n
    cases c <;> simp only [evCodeR] at e <;> first | exact e.elim | skip
    case skip => exact wpIn_skip (hk .normal s a w h θ R (.refl _ _ _ _) e)
    case label l => exact wpIn_label (hk .normal s a w h θ R (.refl _ _ _ _) e)
    case exit id => exact wpIn_exit (hk (.exit id) s a w h θ R (.refl _ _ _ _) e)
    case ret => exact wpIn_ret (hk .ret s a w h θ R (.refl _ _ _ _) e)
    case region id ops draw =>
      unfold evRegion at e
      rcases holds_bif (H := fun t => t.holds Q') e with ⟨rfl, e⟩ | ⟨rfl, e⟩
      · obtain ⟨hd, e⟩ := holds_need (Closed.holds Q') e
        refine wpIn_region_any (F := FW r) (n := 0) ok.mixed ?_
        obtain ⟨h2, hle2, I2⟩ := R.inv.freezeM (frzL ops.toList (beforeL [] ops.toList) s.T s.M 0 ops.toList)
        refine outer (r := r) ok (Closed.holds Q') (call_ok (code_ok ok n)) hd (h1 := h) (θ1 := θ) (s1 := s) (a1 := a) (fun s' a' w' h' θ' R' L' e' => hk .normal s' a' w' h' θ' R' L' e') (Kp := noK) (fun v u M' κ' s' a' w' h' θ' _ _ _ _ e' => False.elim e') ops.size 0 _ (s.pre ops.toList (beforeL [] ops.toList) 0 ops.toList) a _ h2 θ (Nat.zero_le _) (Lst.init ops) (Nat.le_refl _) ⟨I2.drawn _, R.tmps.mono hle2 (.refl _), R.size⟩ ⟨hle2, .refl _, Nat.le_refl _, rfl, rfl⟩ (storesL ops.toList (beforeL [] ops.toList) s.T 0 s.κ 0 ops.toList) ?_
        exact e
      · refine wpIn_region (F := FW r) (n := 0) ?_
        have := evOps_ok (r := r) ok (Closed.holds Q') (call_ok (code_ok ok n)) (Q := Q) ops.toList 0 (by simp) R e (fun s' a' w' h' θ' R' hh ht hκ hn hd e' => hk .normal s' a' w' h' θ' R' ⟨hh, ht, hκ, hn, hd⟩ e') (Kp := noK) (fun v u M' κ' a' w' h' θ' _ _ _ _ _ _ e' => False.elim e')
        rw [List.range_eq_range']
        simpa using this
    case seq x y =>
      refine wpIn_seq (ih x s _ a w h θ _ R e fun ex s' a' w' h' θ' R' L' e' => ?_)
      cases ex with
      | normal => exact ih y s' K a' w' h' θ' Q R' e' fun e2 s2 a2 w2 h2 θ2 R2 L2 e2' => hk e2 s2 a2 w2 h2 θ2 R2 (L'.trans L2) e2'
      | exit i => exact hk (.exit i) s' a' w' h' θ' R' L' e'
      | ret => exact hk .ret s' a' w' h' θ' R' L' e'
    case cond c x y =>
      have r := opd_rep R.tmps c
      split at e
      · rename_i hq
        rw [hq] at r
        have hv : a.eval c = .bool true := by generalize a.eval c = u at r; cases r; rfl
        exact wpIn_cond_true hv (ih x s K a w h θ Q R e hk)
      · rename_i hq
        rw [hq] at r
        have hv : a.eval c = .bool false := by generalize a.eval c = u at r; cases r; rfl
        exact wpIn_cond_false hv (ih y s K a w h θ Q R e hk)
      · rename_i q hq
        rw [hq] at r
        have hv : a.eval c = .bool q := by generalize a.eval c = u at r; cases r; rfl
        refine wpIn_cond hv ?_
        rcases holds_bif (H := fun t => t.holds Q') e with ⟨rfl, e⟩ | ⟨rfl, e⟩
        · exact ih x s K a w h θ Q R e hk
        · exact ih y s K a w h θ Q R e hk
      · exact e.elim
    case block id body =>
      refine wpIn_block (ih body s _ a w h θ _ R e fun ex s' a' w' h' θ' R' L' e' => ?_)
      cases ex with
      | normal => exact hk .normal s' a' w' h' θ' R' L' e'
      | exit i =>
        simp only [exT, Exit.inBlock]
        rcases holds_bif (H := fun t => t.holds Q') e' with ⟨hi, e'⟩ | ⟨hi, e'⟩
        · rw [if_pos (Nat.eq_of_beq_eq_true hi)]
          exact hk .normal s' a' w' h' θ' R' L' e'
        · rw [if_neg (fun h => by subst h; rw [Nat.beq_refl] at hi; cases hi)]
          exact hk (.exit i) s' a' w' h' θ' R' L' e'
      | ret => exact hk .ret s' a' w' h' θ' R' L' e'
end codeR
end Go.Proofs.YtchljgmcempedaaDoor
