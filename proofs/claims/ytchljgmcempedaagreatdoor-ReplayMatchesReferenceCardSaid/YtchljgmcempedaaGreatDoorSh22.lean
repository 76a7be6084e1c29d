/- What a value that stands for a machine's is bound to be; contracts by evaluation (nothing is claimed here). -/
import Derived.Test.YtchljgmcempedaaGreatDoorSh21
set_option linter.unusedVariables false
set_option linter.unusedSimpArgs false
namespace Go.Proofs.YtchljgmcempedaaGreatDoor
open Go Go.RowKit

def okCell (f : List SV → Prop) : SV → Prop
  | .v x => okV x
  | .arr k n l => l.length = n ∧ ∀ x, x ∈ l → okI k x
  | .rd τ l => l.length ≤ lim ∧ ∀ x, x ∈ l → f (encE τ x)
  | _ => True
def okC : Nat → List SV → Prop
  | 0, _ => True
  | n + 1, cs => ∀ s, s ∈ cs → okCell (okC n) s
def okS1 : SV → Prop
  | .agg cs => okC 4 cs
  | s => okCell (okC 3) s
def okS : SV → Prop
  | .tup l => ∀ s, s ∈ l → okS1 s
  | s => okS1 s
def okSL (l : List SV) : Prop := ∀ s, s ∈ l → okS s

section ok
variable {h : Hp} {θ : Th}
mutual
theorem repC_ok : ∀ (n : Nat) {cs : List SV} {vs : List Value}, RepC h θ cs vs → okC n cs
  | 0, cs, vs, r => trivial
  | n + 1, cs, vs, r => fun s hs => repC_cell n hs r
theorem repC_cell (n : Nat) : ∀ {cs : List SV} {vs : List Value} {s : SV}, s ∈ cs → RepC h θ cs vs → okCell (okC n) s
  | s' :: cs, vs, s, hs, r => by
    rcases r.inv with ⟨v, vs', rfl, c, r1, r2⟩ | ⟨k, m, l, vs', rfl, rfl, h1, h2, r2⟩
    · rcases List.mem_cons.1 hs with rfl | hs
      · exact rep_cell n r1
      · exact repC_cell n hs r2
    · rcases List.mem_cons.1 hs with rfl | hs
      · exact ⟨h1, h2⟩
      · exact repC_cell n hs r2
theorem rep_cell (n : Nat) {s : SV} {v : Value} (r : Rep h θ s v) : okCell (okC n) s := by
  cases r with
  | v x o => exact o
  | rdnil τ a c => exact ⟨Nat.zero_le _, fun x hx => by cases hx⟩
  | rd τ l a c vals h1 h2 h3 h4 h5 =>
    refine ⟨h5, fun x hx => ?_⟩
    obtain ⟨j, hj⟩ := List.getElem?_of_mem hx
    exact repC_ok n (h3 j x hj)
  | _ => trivial
end
theorem rep_ok1 {s : SV} {v : Value} (r : Rep h θ s v) : okS1 s := by
  cases s with
  | agg cs => cases r; exact repC_ok 4 ‹_›
  | _ => exact rep_cell 3 r
theorem repL_ok1 : ∀ {ss : List SV} {vs : List Value}, RepL h θ ss vs → ∀ s, s ∈ ss → okS1 s
  | s' :: ss, vs, r, s, hs => by
    obtain ⟨v, vs', rfl, r1, r2⟩ := r.cons_inv
    rcases List.mem_cons.1 hs with rfl | hs
    · exact rep_ok1 r1
    · exact repL_ok1 r2 s hs
theorem rep_ok {s : SV} {v : Value} (r : Rep h θ s v) : okS s := by
  cases s with
  | tup l => cases r; exact repL_ok1 ‹_›
  | _ => exact rep_ok1 r
theorem repL_ok : ∀ {ss : List SV} {vs : List Value}, RepL h θ ss vs → okSL ss
  | s' :: ss, vs, r, s, hs => by
    obtain ⟨v, vs', rfl, r1, r2⟩ := r.cons_inv
    rcases List.mem_cons.1 hs with rfl | hs
    · exact rep_ok r1
    · exact repL_ok r2 s hs
end ok

/-! a bool, written either way -/
def unb1 : SV → SV
  | .b q => .v (.bool q)
  | s => s
def unbA : SV → SV
  | .agg cs => .agg (cs.map unb1)
  | s => unb1 s
def unb : SV → SV
  | .tup l => .tup (l.map unbA)
  | s => unbA s
section unb
variable {h : Hp} {θ : Th}
theorem unb1_rep {s : SV} {v : Value} : Rep h θ (unb1 s) v ↔ Rep h θ s v := by
  cases s <;> try exact Iff.rfl
  exact ⟨fun r => by cases r; exact .b _, fun r => by cases r; exact .v _ trivial⟩
theorem unb1_cell (s : SV) : isCell (unb1 s) = isCell s := by cases s <;> rfl
theorem unbC_rep : ∀ {cs : List SV} {vs : List Value}, RepC h θ (cs.map unb1) vs ↔ RepC h θ cs vs
  | [], vs => Iff.rfl
  | s :: cs, vs => by
    constructor
    · intro r
      rcases RepC.inv (s := unb1 s) (ss := cs.map unb1) r with ⟨v, vs', rfl, c, r1, r2⟩ | ⟨k, m, l, vs', he, rfl, h1, h2, r2⟩
      · exact .cell _ _ _ _ (by rw [← unb1_cell]; exact c) (unb1_rep.1 r1) (unbC_rep.1 r2)
      · cases s <;> simp only [unb1] at he <;> first | (cases he; done) | skip
        cases he
        exact .arr _ _ _ _ _ h1 h2 (unbC_rep.1 r2)
    · intro r
      rcases r.inv with ⟨v, vs', rfl, c, r1, r2⟩ | ⟨k, m, l, vs', rfl, rfl, h1, h2, r2⟩
      · exact .cell _ _ _ _ (by rw [unb1_cell]; exact c) (unb1_rep.2 r1) (unbC_rep.2 r2)
      · exact .arr _ _ _ _ _ h1 h2 (unbC_rep.2 r2)
theorem unbA_rep {s : SV} {v : Value} : Rep h θ (unbA s) v ↔ Rep h θ s v := by
  cases s with
  | agg cs => exact ⟨fun r => by cases r; exact .agg _ _ (unbC_rep.1 ‹_›), fun r => by cases r; exact .agg _ _ (unbC_rep.2 ‹_›)⟩
  | _ => simp only [unbA]; exact unb1_rep
theorem unbL_rep : ∀ {ss : List SV} {vs : List Value}, RepL h θ (ss.map unbA) vs ↔ RepL h θ ss vs
  | [], vs => Iff.rfl
  | s :: ss, vs => by
    constructor
    · intro r
      obtain ⟨v, vs', rfl, r1, r2⟩ := RepL.cons_inv (s := unbA s) (ss := ss.map unbA) r
      exact .cons _ _ _ _ (unbA_rep.1 r1) (unbL_rep.1 r2)
    · intro r
      obtain ⟨v, vs', rfl, r1, r2⟩ := r.cons_inv
      exact .cons _ _ _ _ (unbA_rep.2 r1) (unbL_rep.2 r2)
theorem unb_rep {s : SV} {v : Value} : Rep h θ (unb s) v ↔ Rep h θ s v := by
  cases s with
  | tup l => exact ⟨fun r => by cases r; exact .tup _ _ (unbL_rep.1 ‹_›), fun r => by cases r; exact .tup _ _ (unbL_rep.2 ‹_›)⟩
  | _ => simp only [unb]; exact unbA_rep
end unb

/-! trees -/
theorem Tree.holds_leaf {r : SV} {G : Goal} : (Tree.leaf r).holds G ↔ G.q r := Iff.rfl
theorem Tree.holds_fail {G : Goal} : Tree.fail.holds G ↔ False := Iff.rfl
theorem Tree.holds_triv {G : Goal} : Tree.triv.holds G ↔ True := Iff.rfl
theorem Tree.holds_next {l : Nat} {vs : List SV} {bs : List Blk} {G : Goal} : (Tree.next l vs bs).holds G ↔ G.n l vs bs := Iff.rfl
theorem Tree.holds_fork {a b : Tree} {G : Goal} : (Tree.fork a b).holds G ↔ a.holds G ∧ b.holds G := Iff.rfl
theorem Tree.holds_cond {q : Bool} {a b : Tree} {G : Goal} : (bif q then a else b).holds G ↔ (q = true → a.holds G) ∧ (q = false → b.holds G) := by
  cases q <;> simp
theorem Tree.holds_letv {α : Type} {wf : α → Prop} {x : α} {k : α → Tree} {G : Goal} : (Tree.letv wf x k).holds G ↔ (wf x → (k x).holds G) :=
  ⟨fun h w => h x rfl w, fun h a e w => by subst e; exact h w⟩
theorem Tree.holds_loop {l : Nat} {L : LoopSpec} {vs : List SV} {bs : List Blk} {round : L.σ → Tree} {G : Goal} : (Tree.loop l L vs bs round).holds G ↔
    L.at (fun _ => True) vs bs ∧ ∀ x, L.inv x → (round x).holds ⟨G.q, fun l' vs' bs' => if l' = l then L.at (fun y => L.mu y < L.mu x) vs' bs' else G.n l' vs' bs'⟩ := Iff.rfl
theorem Tree.ends_holds {t : Tree} {q : SV → Prop} : t.ends q ↔ t.holds ⟨q, fun _ _ _ => False⟩ := Iff.rfl

/-- what is let, put in -/
def Tree.inst : Tree → Tree
  | .letv _ x k => (k x).inst
  | t => t
theorem Tree.of_inst {Q : Goal} : ∀ {t : Tree}, t.inst.holds Q → t.holds Q
  | .leaf r, h => h
  | .fail, h => h
  | .loop .., h => h
  | .next .., h => h
  | .fork .., h => h
  | .triv, h => h
  | .letv wf x k, h => fun a e _ => by subst e; exact Tree.of_inst (t := k a) h

/-- A contract whose result's bounds are its representation's. -/
def mkSpec (α : Type) (run : List SV → Option (Bool × α)) (enc : α → SV) : Spec := ⟨α, run, enc, fun x => okS (enc x)⟩
theorem spec_by {E : Env} (ok : EnvOk E) {n : Nat} {f : FuncId} {α : Type} {run : List SV → Option (Bool × α)} {enc : α → SV}
    (e : ∀ svs x, run svs = some (true, x) → okSL svs → (evF E n f svs).ends fun r => unb r = unb (enc x)) : SpecOk E f (mkSpec α run enc) :=
  fun svs x hx h w us hag hg ru => (evF_ok ok (e svs x hx (repL_ok ru)) hag hg ru).mono fun en w' ⟨v, r, h', q1, q2, q4, q5, q6, q7, q8⟩ =>
    have q9 : Rep h' Th0 (enc x) v := unb_rep.1 (q2 ▸ unb_rep.2 q8)
    ⟨v, h', q1, q4, q5, q6, q7, q9, rep_ok q9⟩
end Go.Proofs.YtchljgmcempedaaGreatDoor
