/- Loops by what they keep (nothing is claimed here). -/
import Derived.Test.YtchljgmcempedaaGreatDoorSh22
set_option linter.unusedVariables false
set_option linter.unusedSimpArgs false
namespace Go.Proofs.YtchljgmcempedaaGreatDoor
open Go Go.RowKit

/-- a key's new number -/
def idxK : List Nat → Nat → Option Nat
  | [], _ => none
  | k :: ks, j => bif Nat.beq k j then some 0 else (idxK ks j).map (· + 1)
def nodupK : List Nat → Bool
  | [] => true
  | k :: ks => (idxK ks k).isNone && nodupK ks
def ren1 (ks : List Nat) : SV → Option SV
  | .own k => (idxK ks k).map .own
  | .loc k a b c => (idxK ks k).map fun j => .loc j a b c
  | .optr k a b c => (idxK ks k).map fun j => .optr j a b c
  | .yld k => (idxK ks k).map .yld
  | s => bif kf1 s then some s else none
def renC (ks : List Nat) : List SV → Option (List SV)
  | [] => some []
  | .arr k n l :: r => (renC ks r).map (.arr k n l :: ·)
  | s :: r => (ren1 ks s).bind fun s' => (renC ks r).map (s' :: ·)
def renA (ks : List Nat) : SV → Option SV
  | .agg cs => (renC ks cs).map .agg
  | s => ren1 ks s
def junkR (ks : List Nat) (s : SV) : SV := match renA ks s with
  | some s' => s'
  | none => .junk
def renB (ks : List Nat) : Blk → Option Blk
  | .lp T ps as bd st pend => some (.lp (T.map (junkR ks)) ps as bd st pend)
  | .dfr => some .dfr
  | .cells cs ty => (renC ks cs).map (.cells · ty)
  | .row τ l ty => some (.row τ l ty)
  | .frow τ l => some (.frow τ l)
  | _ => none
def keyOf : SV → Option Nat
  | .own k | .loc k _ _ _ | .optr k _ _ _ | .yld k => some k
  | _ => none
def keysOf (T : Tmps) : List Nat → Option (List Nat)
  | [] => some []
  | t :: ts => (keyOf (T t)).bind fun k => (keysOf T ts).map (k :: ·)
def valsOf (ks : List Nat) (T : Tmps) : List Nat → Option (List SV)
  | [] => some []
  | t :: ts => (renA ks (T t)).bind fun v => (valsOf ks T ts).map (v :: ·)
def blksOf (ks : List Nat) (M : Mem) : List Nat → Option (List Blk)
  | [] => some []
  | k :: r => ((M k).bind (renB ks)).bind fun b => (blksOf ks M r).map (b :: ·)
def canon (L : LoopSpec) (s : St) : Option (List SV × List Blk) :=
  (keysOf s.T L.keys).bind fun ks => bif nodupK ks then (valsOf ks s.T L.slots).bind fun vs => (blksOf ks s.M ks).map fun bs => (vs, bs) else none
def getT : List Nat → List SV → Nat → SV
  | t :: ts, v :: vs, j => bif Nat.beq j t then v else getT ts vs j
  | _, _, _ => .junk
def getM : List Blk → Nat → Option Blk
  | [], _ => none
  | b :: _, 0 => some b
  | _ :: r, n + 1 => getM r n
def absS (L : LoopSpec) (vs : List SV) (bs : List Blk) (n : Nat) : St := ⟨getT L.slots vs, getM bs, L.keys.length, n⟩

/-- slots that may hold the nil slice hold rows of the call's own; bools are left open -/
def fixN : List (Nat × (ETy × TypeId)) → St → St
  | [], s => s
  | p :: r, s => match s.T p.1 with
    | .v (.slice none 0 0) => fixN r ⟨s.T.put (some p.1) (.own s.κ), s.M.set s.κ (.row p.2.1 [] p.2.2), s.κ + 1, s.n⟩
    | .b q => fixN r ⟨s.T.put (some p.1) (.v (.bool q)), s.M, s.κ, s.n⟩
    | _ => fixN r s
/-- code, its loops by what they keep -/
def evCodeL (E : Env) (L : Nat → Option (St → LoopSpec)) : Nat → List Nat → Nat → Code → St → (Ex → St → Tree) → Tree
  | 0, _, _, _, _, _ => .fail
  | n + 1, lv, bid, c, s, K => match c with
    | .seq a b => evCodeL E L n lv bid a s fun e s => match e with
      | .normal => evCodeL E L n lv bid b s K
      | e => K e s
    | .cond c a b => match opd s.T c with
      | .b true => evCodeL E L n lv bid a s K
      | .b false => evCodeL E L n lv bid b s K
      | .v (.bool q) => bif q then evCodeL E L n lv bid a s K else evCodeL E L n lv bid b s K
      | _ => .fail
    | .block id body => evCodeL E L n lv id body s fun e s => match e with
      | .exit i => bif Nat.beq i id then K .normal s else K (.exit i) s
      | e => K e s
    | .scope body => evCodeL E L n lv bid body s K
    | .loop body => match L bid with
      | some S => bif lv.elem bid then .fail else match canon (S s) (fixN (S s).nils s) with
        | some (vs, bs) => .loop bid (S s) vs bs fun x => evCodeL E L n (bid :: lv) bid body (absS (S s) ((S s).vals x) ((S s).blks x) s.n) fun e s' => match e with
          | .normal => match canon (S s) (fixN (S s).nils s') with
            | some (vs, bs) => .next bid vs bs
            | none => .fail
          | e => K e s'
        | none => .fail
      | none => evCodeL E L n lv bid body s fun e s => match e with
        | .normal => evCodeL E L n lv bid (.loop body) s K
        | e => K e s
    | c => evCode E n c s K
/-- the tree of a call, its loops by what they keep, seen from where they begin -/
def evFLs (E : Env) (L : Nat → Option (St → LoopSpec)) (n : Nat) (f : FuncId) (args : List SV) : Tree := match E.P.funcs[f]? with
  | some fn => evBody E fn (evCodeL E L n [] 0) args (fun _ => none) 0 fun v s => match liftS s.M v with
    | some r => .leaf r
    | none => .fail
  | none => .fail
/-- the tree of a call, its loops by what they keep -/
def evFL (E : Env) (L : Nat → Option LoopSpec) (n : Nat) (f : FuncId) (args : List SV) : Tree := evFLs E (fun b => (L b).map fun S _ => S) n f args

section canon
variable {E : Env} {n0 : Nat} {w0 : World} {h0 h : Hp} {θ : Th} {w : World}
def thK (ks : List Nat) (θ : Th) : Th := fun j => match ks[j]? with
  | some k => θ k
  | none => none
theorem idxK_some : ∀ {ks : List Nat} {k j : Nat}, idxK ks k = some j → ks[j]? = some k
  | k' :: ks, k, j, e => by
    simp only [idxK] at e
    cases hb : Nat.beq k' k with
    | true => rw [hb] at e; cases e; rw [Nat.eq_of_beq_eq_true hb]; rfl
    | false =>
      rw [hb] at e
      simp only [cond_false, Option.map_eq_some_iff] at e
      obtain ⟨i, h1, rfl⟩ := e
      simpa using idxK_some h1
theorem nodupK_inj : ∀ {ks : List Nat} {i j k : Nat}, nodupK ks = true → ks[i]? = some k → ks[j]? = some k → i = j
  | [], i, j, k, h, hi, hj => by simp at hi
  | k' :: ks, i, j, k, h, hi, hj => by
    simp only [nodupK, Bool.and_eq_true] at h
    have none_of : ∀ {ks : List Nat} {m : Nat}, (idxK ks k).isNone = true → ks[m]? = some k → False := by
      intro ks
      induction ks with
      | nil => intro m _ h; simp at h
      | cons a ks ih =>
        intro m hn hm
        simp only [idxK] at hn
        cases hb : Nat.beq a k with
        | true => rw [hb] at hn; cases hn
        | false =>
          rw [hb] at hn
          cases m with
          | zero =>
            simp at hm; subst hm
            rw [Nat.beq_refl] at hb; cases hb
          | succ m => exact ih (m := m) (by simpa using hn) (by simpa using hm)
    cases i with
    | zero =>
      cases j with
      | zero => rfl
      | succ j =>
        simp at hi; subst hi
        exact (none_of h.1 (by simpa using hj)).elim
    | succ i =>
      cases j with
      | zero =>
        simp at hj; subst hj
        exact (none_of h.1 (by simpa using hi)).elim
      | succ j => rw [nodupK_inj (i := i) (j := j) h.2 (by simpa using hi) (by simpa using hj)]
theorem thK_idx {ks : List Nat} {k j : Nat} (e : idxK ks k = some j) : thK ks θ j = θ k := by
  simp only [thK, idxK_some e]
theorem bif_some {α : Type} {q : Bool} {a b : α} (e : (bif q then some a else none) = some b) : q = true ∧ a = b := by
  cases q with
  | true => exact ⟨rfl, by simpa using e⟩
  | false => cases e
theorem ren1_rep {ks : List Nat} {s s' : SV} {v : Value} (e : ren1 ks s = some s') (r : Rep h θ s v) : Rep h (thK ks θ) s' v := by
  cases s <;> simp only [ren1] at e
  case own k =>
    obtain ⟨j, h1, rfl⟩ := Option.map_eq_some_iff.1 e
    cases r
    exact .own _ _ _ _ _ (by rw [thK_idx h1]; assumption)
  case loc k a b c =>
    obtain ⟨j, h1, rfl⟩ := Option.map_eq_some_iff.1 e
    cases r
    exact .loc _ _ _ _ _ (by rw [thK_idx h1]; assumption) ‹_›
  case optr k a b c =>
    obtain ⟨j, h1, rfl⟩ := Option.map_eq_some_iff.1 e
    cases r
    exact .optr _ _ _ _ _ _ _ (by rw [thK_idx h1]; assumption) ‹_›
  case yld k =>
    obtain ⟨j, h1, rfl⟩ := Option.map_eq_some_iff.1 e
    cases r
    exact .yld _ _ _ (by rw [thK_idx h1]; assumption)
  all_goals
    obtain ⟨hk, rfl⟩ := bif_some e
    exact r.kf hk
theorem ren1_cell {ks : List Nat} {s s' : SV} (e : ren1 ks s = some s') (c : isCell s = true) : isCell s' = true := by
  cases s <;> simp only [ren1] at e
  case own k => obtain ⟨j, h1, rfl⟩ := Option.map_eq_some_iff.1 e; rfl
  case loc k a b c => obtain ⟨j, h1, rfl⟩ := Option.map_eq_some_iff.1 e; rfl
  case optr k a b c => obtain ⟨j, h1, rfl⟩ := Option.map_eq_some_iff.1 e; rfl
  case yld k => obtain ⟨j, h1, rfl⟩ := Option.map_eq_some_iff.1 e; first | rfl | exact c
  all_goals
    obtain ⟨_, rfl⟩ := bif_some e
    exact c
theorem renC_rep {ks : List Nat} : ∀ {cs cs' : List SV} {vs : List Value}, renC ks cs = some cs' → RepC h θ cs vs → RepC h (thK ks θ) cs' vs
  | [], cs', vs, e, r => by
    cases e; rw [r.nil_inv]; exact .nil
  | s :: cs, cs', vs, e, r => by
    rcases r.inv with ⟨v, vs', rfl, c, r1, r2⟩ | ⟨k, m, l, vs', rfl, rfl, h1, h2, r2⟩
    · have e' : (ren1 ks s).bind (fun s' => (renC ks cs).map (s' :: ·)) = some cs' := by
        cases s <;> first | exact e | (simp [isCell] at c; done)
      obtain ⟨s', q1, q2⟩ := Option.bind_eq_some_iff.1 e'
      obtain ⟨cs2, q3, rfl⟩ := Option.map_eq_some_iff.1 q2
      exact .cell _ _ _ _ (ren1_cell q1 c) (ren1_rep q1 r1) (renC_rep q3 r2)
    · simp only [renC] at e
      obtain ⟨cs2, q3, rfl⟩ := Option.map_eq_some_iff.1 e
      exact .arr _ _ _ _ _ h1 h2 (renC_rep q3 r2)
theorem renA_rep {ks : List Nat} {s s' : SV} {v : Value} (e : renA ks s = some s') (r : Rep h θ s v) : Rep h (thK ks θ) s' v := by
  cases s with
  | agg cs =>
    simp only [renA] at e
    obtain ⟨cs2, q3, rfl⟩ := Option.map_eq_some_iff.1 e
    cases r
    exact .agg _ _ (renC_rep q3 ‹_›)
  | _ => exact ren1_rep (by simpa only [renA] using e) r
theorem junkR_rep {ks : List Nat} : ∀ {T : List SV} {vs : List Value}, RepL h θ T vs → RepL h (thK ks θ) (T.map (junkR ks)) vs
  | [], vs, r => by rw [r.nil_inv]; exact .nil
  | s :: T, vs, r => by
    obtain ⟨v, vs', rfl, r1, r2⟩ := r.cons_inv
    refine .cons _ _ _ _ ?_ (junkR_rep r2)
    unfold junkR
    split
    · rename_i e; exact renA_rep e r1
    · exact .junk _
end canon
end Go.Proofs.YtchljgmcempedaaGreatDoor
