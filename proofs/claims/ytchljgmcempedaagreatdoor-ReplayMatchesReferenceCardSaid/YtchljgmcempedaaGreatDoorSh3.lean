/- The relation between the evaluator's state and the machine's memory; how each step of memory keeps it (nothing is claimed here). -/
import Derived.Test.YtchljgmcempedaaGreatDoorSh2
set_option linter.unusedVariables false
set_option linter.unusedSimpArgs false
namespace Go.Proofs.YtchljgmcempedaaGreatDoor
open Go Go.RowKit

def encR (τ : ETy) (l : List τ.T) : List SV := l.flatMap (encE τ)
def Th0 : Th := fun _ => none

def MapR (h : Hp) (θ : Th) (kd : IntKind) : List (Int × SV) → List MapEntry → Prop
  | [], [] => True
  | p :: es, e :: ents => (e.key = .int kd p.1 ∧ okI kd p.1) ∧ Rep h θ p.2 e.val ∧ MapR h θ kd es ents
  | _, _ => False
theorem MapR.mono {h h' : Hp} {θ θ' : Th} {kd : IntKind} (hh : h.le h') (ht : θ.le θ') : ∀ {es : List (Int × SV)} {ents : List MapEntry}, MapR h θ kd es ents → MapR h' θ' kd es ents
  | [], [], _ => trivial
  | [], _ :: _, r => r.elim
  | _ :: _, [], r => r.elim
  | p :: es, e :: ents, r => ⟨r.1, r.2.1.mono hh ht, r.2.2.mono hh ht⟩
/-- entries are told apart by when they were laid -/
def BornOk (ents : Array MapEntry) (clock : Nat) : Prop := (∀ (i : Nat) (e : MapEntry), ents[i]? = some e → e.born < clock) ∧ (∀ (i j : Nat) (e e' : MapEntry), ents[i]? = some e → ents[j]? = some e' → e.born = e'.born → i = j)
theorem MapR.length {h : Hp} {θ : Th} {kd : IntKind} : ∀ {es : List (Int × SV)} {ents : List MapEntry}, MapR h θ kd es ents → es.length = ents.length
  | [], [], _ => rfl
  | [], _ :: _, r => r.elim
  | _ :: _, [], r => r.elim
  | _ :: es, _ :: ents, r => by simp [MapR.length r.2.2]
theorem MapR.get {h : Hp} {θ : Th} {kd : IntKind} : ∀ {es : List (Int × SV)} {ents : List MapEntry} {i : Nat} {p : Int × SV}, MapR h θ kd es ents → es[i]? = some p → ∃ e : MapEntry, ents[i]? = some e ∧ e.key = .int kd p.1 ∧ okI kd p.1 ∧ Rep h θ p.2 e.val
  | [], _, i, p, _, e => by simp at e
  | _ :: _, [], i, p, r, _ => r.elim
  | q :: es, x :: ents, 0, p, r, e => by
    simp only [List.getElem?_cons_zero, Option.some.injEq] at e
    subst e
    exact ⟨x, rfl, r.1.1, r.1.2, r.2.1⟩
  | q :: es, x :: ents, i + 1, p, r, e => by
    obtain ⟨y, h1, h2⟩ := MapR.get r.2.2 (i := i) (by simpa using e)
    exact ⟨y, by simpa using h1, h2⟩
theorem BornOk.nil (c : Nat) : BornOk #[] c := ⟨fun i e h => by simp at h, fun i j e e' h => by simp at h⟩
theorem BornOk.push {ents : Array MapEntry} {clock : Nat} (b : BornOk ents clock) (x : MapEntry) (hx : x.born = clock) : BornOk (ents.push x) (clock + 1) := by
  have at_ : ∀ {i : Nat} {e : MapEntry}, (ents.push x)[i]? = some e → (i < ents.size ∧ ents[i]? = some e) ∨ (i = ents.size ∧ e = x) := fun {i e} h => by
    rw [Array.getElem?_push] at h
    split at h
    · rename_i hi; cases h; exact .inr ⟨hi, rfl⟩
    · exact .inl ⟨(Array.getElem?_eq_some_iff.1 h).1, h⟩
  refine ⟨fun i e h => ?_, fun i j e e' h h' hb => ?_⟩
  · rcases at_ h with ⟨_, h⟩ | ⟨_, he⟩
    · have := b.1 i e h; omega
    · rw [he]; omega
  · rcases at_ h with ⟨_, h⟩ | ⟨hi, he⟩ <;> rcases at_ h' with ⟨_, h'⟩ | ⟨hj, he'⟩
    · exact b.2 i j e e' h h' hb
    · have := b.1 i e h; rw [he'] at hb; omega
    · have := b.1 j e' h'; rw [he] at hb; omega
    · omega
def BlkOk (h : Hp) (θ : Th) (w : World) (n0 : Nat) : Blk → Hd → Prop
  | .cells cs ty, hd => ∃ id vs ty', hd = (.pointer (some ⟨id, 0, none⟩), some id) ∧ n0 ≤ id ∧ h id = none ∧ w.heap[id]? = some (.cells vs.toArray ty' (0, 0)) ∧ RepC h θ cs vs
  | .row τ l ty, hd => (l = [] ∧ ∃ a, hd = (.slice a 0 0, none)) ∨
      (∃ id c vs rest ty', hd = (.slice (some ⟨id, 0, none⟩) l.length c, some id) ∧ n0 ≤ id ∧ h id = none ∧ w.heap[id]? = some (.cells (vs ++ rest).toArray ty' (0, 0)) ∧
        RepC h θ (encR τ l) vs ∧ (vs ++ rest).length = c * szE τ ∧ l.length ≤ c ∧ l.length ≤ lim)
  | .frow τ l, hd => Rep h θ (.rd τ l) hd.1
  | .map kd es, hd => ∃ id ents clock, hd = (.map (some id), some id) ∧ n0 ≤ id ∧ h id = none ∧ w.heap[id]? = some (.map ents clock) ∧ MapR h θ kd es ents.toList ∧ BornOk ents clock
  | .iter kd es dn cur, hd => ∃ (id mid since last : Nat) (seen : Array Nat) (ents : Array MapEntry), hd = (.pointer (some ⟨id, 0, none⟩), some id) ∧ n0 ≤ id ∧ h id = none ∧ w.heap[id]? = some (.mapIter (some mid) since seen last) ∧
      h mid = some (.map ents last) ∧ MapR h θ kd es ents.toList ∧ BornOk ents last ∧ last ≤ since ∧
      (∀ (i : Nat) (e : MapEntry), ents[i]? = some e → seen.contains e.born = dn.getD i true) ∧ (∀ i, cur = some i → ∃ e : MapEntry, ents[i]? = some e ∧ seen.back? = some e.born)
  | .lp T ps as bd st pend, hd => ∃ id rec, hd = (.func (.yield id) rec.tmps #[], some id) ∧ n0 ≤ id ∧ h id = none ∧ w.heap[id]? = some (.loop rec) ∧ rec.state = st ∧ rec.pending = pend ∧ rec.params = ps ∧ rec.assign = as ∧ rec.body = bd ∧ RepL h θ T rec.tmps.toList
  | .dfr, hd => ∃ id v, hd = (v, some id) ∧ n0 ≤ id ∧ h id = none ∧ w.heap[id]? = some (.deferred (some []))

def Blk.live (b : Blk) : Prop := ∀ τ l, b ≠ .frow τ l
def GlobOk (E : Env) (h : Hp) : Prop := ∀ g cs, E.glob g = some cs → ∃ vs ty fz, h g = some (.cells vs.toArray ty fz) ∧ RepC h Th0 cs vs

structure Inv (E : Env) (n0 : Nat) (w0 : World) (h0 h : Hp) (θ : Th) (M : Mem) (Fr : Nat → Prop) (w : World) : Prop where
  agree : ∀ b o, h b = some o → w.heap[b]? = some o
  blk : ∀ k b, M k = some b → ∃ hd, θ k = some hd ∧ BlkOk h θ w n0 b hd
  inj : ∀ k k' b b' id v v', M k = some b → M k' = some b' → b.live → b'.live → θ k = some (v, some id) → θ k' = some (v', some id) → k = k'
  fresh : ∀ k, Fr k → θ k = none
  below : Below n0 w0 w
  n0le : n0 = w0.heap.size
  hle : h0.le h
  hold : ∀ b, b < n0 → h b = h0 b
  glob : GlobOk E h0

theorem Th0.le (θ : Th) : Th0.le θ := fun _ _ e => by cases e
theorem RepC.cells_one {h : Hp} {θ : Th} : ∀ {cs : List SV} {vs : List Value}, RepC h θ cs vs → ∀ v ∈ vs, v.oneCell' = true
  | [], vs, r, v, hv => by rw [r.nil_inv] at hv; cases hv
  | s :: ss, vs, r, v, hv => by
    rcases r.inv with ⟨u, vs', rfl, c, ru, rs⟩ | ⟨k, n, l, vs', rfl, rfl, hl, hk, rs⟩
    · rcases List.mem_cons.1 hv with rfl | hv
      · exact isCell_one c ru
      · exact rs.cells_one v hv
    · rcases List.mem_append.1 hv with hv | hv
      · obtain ⟨x, _, rfl⟩ := List.mem_map.1 hv; rfl
      · exact rs.cells_one v hv
theorem Rep.cells {h : Hp} {θ : Th} {s : SV} {v : Value} {cs : List SV} (e : cellsS s = some cs) (r : Rep h θ s v) : RepC h θ cs v.cells.toList := by
  cases r with
  | agg cs' vs r => simp only [cellsS, Option.some.injEq] at e; subst e; simpa [Value.cells] using r
  | v x o =>
    cases v <;> first
      | (exact o.elim)
      | (simp only [cellsS, Option.some.injEq] at e; subst e; exact .cell _ _ _ _ rfl (.v _ o) .nil)
  | undef => simp [cellsS] at e
  | junk x => simp [cellsS] at e
  | tup ss vs r => simp [cellsS] at e
  | b q => simp only [cellsS, Option.some.injEq] at e; subst e; exact .cell _ _ _ _ rfl (.b q) .nil
  | rdnil τ a c => simp only [cellsS, Option.some.injEq] at e; subst e; exact .cell _ _ _ _ rfl (.rdnil τ a c) .nil
  | rd τ l a c vals h1 h2 h3 h4 h5 => simp only [cellsS, Option.some.injEq] at e; subst e; exact .cell _ _ _ _ rfl (.rd τ l a c vals h1 h2 h3 h4 h5) .nil
  | rdx τ l a n r => simp only [cellsS, Option.some.injEq] at e; subst e; exact .cell _ _ _ _ rfl (.rdx τ l a n r) .nil
  | own k a n c o e' => simp only [cellsS, Option.some.injEq] at e; subst e; exact .cell _ _ _ _ rfl (.own k a n c o e') .nil
  | loc k off ix n id e' l => simp only [cellsS, Option.some.injEq] at e; subst e; exact .cell _ _ _ _ rfl (.loc k off ix n id e' l) .nil
  | gptr g off ix n l => simp only [cellsS, Option.some.injEq] at e; subst e; exact .cell _ _ _ _ rfl (.gptr g off ix n l) .nil
  | rptr τ l i off a c r l' => simp only [cellsS, Option.some.injEq] at e; subst e; exact .cell _ _ _ _ rfl (.rptr τ l i off a c r l') .nil
  | optr k sz i off id n c e' l => simp only [cellsS, Option.some.injEq] at e; subst e; exact .cell _ _ _ _ rfl (.optr k sz i off id n c e' l) .nil
  | fn f fs cs' xs ys r1 r2 => simp only [cellsS, Option.some.injEq] at e; subst e; exact .cell _ _ _ _ rfl (.fn f fs cs' xs ys r1 r2) .nil
  | map k id e' => simp only [cellsS, Option.some.injEq] at e; subst e; exact .cell _ _ _ _ rfl (.map k id e') .nil
  | cs k n sz id e' l => simp only [cellsS, Option.some.injEq] at e; subst e; exact .cell _ _ _ _ rfl (.cs k n sz id e' l) .nil
  | pp cs' off ix n id vs ty fz e' r' l => simp only [cellsS, Option.some.injEq] at e; subst e; exact .cell _ _ _ _ rfl (.pp cs' off ix n id vs ty fz e' r' l) .nil
  | yld k id ts e' => simp only [cellsS, Option.some.injEq] at e; subst e; exact .cell _ _ _ _ rfl (.yld k id ts e') .nil
  | iter k id e' => simp only [cellsS, Option.some.injEq] at e; subst e; exact .cell _ _ _ _ rfl (.iter k id e') .nil
  | win k sz lo n c a o e' l => simp only [cellsS, Option.some.injEq] at e; subst e; exact .cell _ _ _ _ rfl (.win k sz lo n c a o e' l) .nil

/-! the frame of a block's owner -/
theorem BlkOk.owned {h : Hp} {θ : Th} {w : World} {n0 : Nat} {b : Blk} {v : Value} {id : Nat} (r : BlkOk h θ w n0 b (v, some id)) (nf : b.live) :
    n0 ≤ id ∧ h id = none ∧ id < w.heap.size := by
  have key : ∀ {o : Obj}, w.heap[id]? = some o → id < w.heap.size := fun e => (Array.getElem?_eq_some_iff.1 e).1
  cases b with
  | cells cs ty =>
    obtain ⟨id', vs, ty', e, h1, h2, h3, _⟩ := r
    simp only [Prod.mk.injEq, Option.some.injEq] at e
    obtain ⟨_, rfl⟩ := e
    exact ⟨h1, h2, key h3⟩
  | row τ l ty =>
    rcases r with ⟨_, a, e⟩ | ⟨id', c, vs, rest, ty', e, h1, h2, h3, _⟩
    · simp at e
    · simp only [Prod.mk.injEq, Option.some.injEq] at e
      obtain ⟨_, rfl⟩ := e
      exact ⟨h1, h2, key h3⟩
  | frow τ l => exact absurd rfl (nf τ l)
  | map kd es =>
    obtain ⟨id', ents, clock, e, h1, h2, h3, _⟩ := r
    simp only [Prod.mk.injEq, Option.some.injEq] at e
    obtain ⟨_, rfl⟩ := e
    exact ⟨h1, h2, key h3⟩
  | iter kd es dn cur =>
    obtain ⟨id', mid, since, last, seen, ents, e, h1, h2, h3, _⟩ := r
    simp only [Prod.mk.injEq, Option.some.injEq] at e
    obtain ⟨_, rfl⟩ := e
    exact ⟨h1, h2, key h3⟩
  | lp T ps as bd st pend =>
    obtain ⟨id', rec, e, h1, h2, h3, _⟩ := r
    simp only [Prod.mk.injEq, Option.some.injEq] at e
    obtain ⟨_, rfl⟩ := e
    exact ⟨h1, h2, key h3⟩
  | dfr =>
    obtain ⟨id', v', e, h1, h2, h3⟩ := r
    simp only [Prod.mk.injEq, Option.some.injEq] at e
    obtain ⟨_, rfl⟩ := e
    exact ⟨h1, h2, key h3⟩

/-- A block's fact in a later world: its own block reads as it did. -/
theorem BlkOk.later {h h' : Hp} {θ θ' : Th} {w w' : World} {n0 : Nat} {b : Blk} {hd : Hd} (r : BlkOk h θ w n0 b hd) (hh : h.le h') (ht : θ.le θ')
    (same : ∀ v id, hd = (v, some id) → b.live → w'.heap[id]? = w.heap[id]? ∧ h' id = h id) : BlkOk h' θ' w' n0 b hd := by
  cases b with
  | cells cs ty =>
    obtain ⟨id, vs, ty', rfl, h1, h2, h3, h4⟩ := r
    obtain ⟨s1, s2⟩ := same _ id rfl (fun _ _ => by simp)
    exact ⟨id, vs, ty', rfl, h1, s2.trans h2, s1.trans h3, h4.mono hh ht⟩
  | row τ l ty =>
    rcases r with r | ⟨id, c, vs, rest, ty', rfl, h1, h2, h3, h4, h5, h6⟩
    · exact .inl r
    · obtain ⟨s1, s2⟩ := same _ id rfl (fun _ _ => by simp)
      exact .inr ⟨id, c, vs, rest, ty', rfl, h1, s2.trans h2, s1.trans h3, h4.mono hh ht, h5, h6⟩
  | frow τ l => exact Rep.mono (s := .rd τ l) hh ht r
  | map kd es =>
    obtain ⟨id, ents, clock, rfl, h1, h2, h3, h4⟩ := r
    obtain ⟨s1, s2⟩ := same _ id rfl (fun _ _ => by simp)
    exact ⟨id, ents, clock, rfl, h1, s2.trans h2, s1.trans h3, h4.1.mono hh ht, h4.2⟩
  | iter kd es dn cur =>
    obtain ⟨id, mid, since, last, seen, ents, rfl, h1, h2, h3, h4, h5, h6⟩ := r
    obtain ⟨s1, s2⟩ := same _ id rfl (fun _ _ => by simp)
    exact ⟨id, mid, since, last, seen, ents, rfl, h1, s2.trans h2, s1.trans h3, hh _ _ h4, h5.mono hh ht, h6⟩
  | lp T ps as bd st pend =>
    obtain ⟨id, rec, rfl, h1, h2, h3, h4, h5, h6, h7, h8, h9⟩ := r
    obtain ⟨s1, s2⟩ := same _ id rfl (fun _ _ => by simp)
    exact ⟨id, rec, rfl, h1, s2.trans h2, s1.trans h3, h4, h5, h6, h7, h8, h9.mono hh ht⟩
  | dfr =>
    obtain ⟨id, v', rfl, h1, h2, h3⟩ := r
    obtain ⟨s1, s2⟩ := same _ id rfl (fun _ _ => by simp)
    exact ⟨id, v', rfl, h1, s2.trans h2, s1.trans h3⟩

section inv
variable {E : Env} {n0 : Nat} {w0 : World} {h0 h : Hp} {θ : Th} {M : Mem} {Fr : Nat → Prop} {w : World}

theorem Inv.size (I : Inv E n0 w0 h0 h θ M Fr w) : n0 ≤ w.heap.size := by have := I.below.size; rw [I.n0le]; exact this

theorem Th.le_set {θ : Th} {κ : Nat} {hd : Hd} (f : θ κ = none) : θ.le (fun k => if k = κ then some hd else θ k) := fun k x e => by
  by_cases hk : k = κ
  · subst hk; rw [f] at e; cases e
  · simp only [hk, if_false]; exact e

theorem beq_ne {a b : Nat} (h : a ≠ b) : Nat.beq a b = false := by
  cases hq : Nat.beq a b with
  | false => rfl
  | true => exact absurd (Nat.eq_of_beq_eq_true hq) h
theorem Mem.set_same (M : Mem) (k : Nat) (b : Blk) : M.set k b k = some b := by simp [Mem.set]
theorem Mem.set_ne (M : Mem) {k j : Nat} (b : Blk) (h : j ≠ k) : M.set k b j = M j := by simp [Mem.set, beq_ne h]
theorem Mem.del_same (M : Mem) (k : Nat) : M.del k k = none := by simp [Mem.del]
theorem Mem.del_ne (M : Mem) {k j : Nat} (h : j ≠ k) : M.del k j = M j := by simp [Mem.del, beq_ne h]
theorem Inv.old_lt (I : Inv E n0 w0 h0 h θ M Fr w) {b : Nat} {o : Obj} (e : h b = some o) : b < w.heap.size := (Array.getElem?_eq_some_iff.1 (I.agree b o e)).1
theorem Inv.key (I : Inv E n0 w0 h0 h θ M Fr w) {k : Nat} {b : Blk} (e : M k = some b) : ¬ Fr k := fun f => by
  obtain ⟨hd, e', _⟩ := I.blk k b e
  rw [I.fresh k f] at e'; cases e'
theorem Inv.own (I : Inv E n0 w0 h0 h θ M Fr w) {k : Nat} {b : Blk} {v : Value} {id : Nat} (e : M k = some b) (e' : θ k = some (v, some id)) (l : b.live) :
    n0 ≤ id ∧ h id = none ∧ id < w.heap.size := by
  obtain ⟨hd, e1, r⟩ := I.blk k b e
  rw [e'] at e1; cases e1
  exact r.owned l

/-- fewer fresh keys, fewer blocks -/
theorem Inv.less (I : Inv E n0 w0 h0 h θ M Fr w) {M' : Mem} {Fr' : Nat → Prop} (hM : ∀ k b, M' k = some b → M k = some b) (hF : ∀ k, Fr' k → Fr k) : Inv E n0 w0 h0 h θ M' Fr' w :=
  ⟨I.agree, fun k b e => I.blk k b (hM k b e), fun k k' b b' id v v' e e' => I.inj k k' b b' id v v' (hM _ _ e) (hM _ _ e'), fun k f => I.fresh k (hF k f), I.below, I.n0le, I.hle, I.hold, I.glob⟩

/-- A new block. -/
theorem Inv.new (I : Inv E n0 w0 h0 h θ M Fr w) {κ : Nat} (f : Fr κ) (o : Obj) (b : Blk) (v : Value)
    (hb : BlkOk h (fun k => if k = κ then some (v, some w.heap.size) else θ k) { w with heap := w.heap.push o } n0 b (v, some w.heap.size)) :
    Inv E n0 w0 h0 h (fun k => if k = κ then some (v, some w.heap.size) else θ k) (M.set κ b) (fun k => Fr k ∧ k ≠ κ) { w with heap := w.heap.push o } := by
  have hpush : ∀ i, i < w.heap.size → (w.heap.push o)[i]? = w.heap[i]? := fun i hi => by rw [Array.getElem?_push, if_neg (by omega)]
  have tle := Th.le_set (hd := (v, some w.heap.size)) (I.fresh κ f)
  refine ⟨fun b o' e => ?_, fun k b' e => ?_, fun k k' b b' id u u' hk hk' l l' e e' => ?_, fun k hk => ?_, ?_, I.n0le, I.hle, I.hold, I.glob⟩
  · show (w.heap.push o)[b]? = _
    rw [hpush b (I.old_lt e)]; exact I.agree b o' e
  · by_cases hk : k = κ
    · subst hk
      rw [Mem.set_same] at e
      cases e
      exact ⟨_, if_pos rfl, hb⟩
    · rw [Mem.set_ne _ _ hk] at e
      obtain ⟨hd, e1, r⟩ := I.blk k b' e
      refine ⟨hd, (if_neg hk).trans e1, r.later (Hp.le.refl _) tle fun u id hu nf => ⟨?_, rfl⟩⟩
      subst hu
      exact hpush id (r.owned nf).2.2
  · by_cases hj : k = κ <;> by_cases hj' : k' = κ
    · rw [hj, hj']
    · subst hj
      rw [Mem.set_ne _ _ hj'] at hk'
      simp only [if_true, Option.some.injEq, Prod.mk.injEq] at e
      rw [if_neg hj'] at e'
      obtain ⟨_, _, hid⟩ := I.own hk' e' l'
      omega
    · subst hj'
      rw [Mem.set_ne _ _ hj] at hk
      simp only [if_true, Option.some.injEq, Prod.mk.injEq] at e'
      rw [if_neg hj] at e
      obtain ⟨_, _, hid⟩ := I.own hk e l
      omega
    · rw [Mem.set_ne _ _ hj] at hk
      rw [Mem.set_ne _ _ hj'] at hk'
      rw [if_neg hj] at e
      rw [if_neg hj'] at e'
      exact I.inj k k' b b' id u u' hk hk' l l' e e'
  · simp only [hk.2, if_false]; exact I.fresh k hk.1
  · exact I.below.trans ⟨rfl, rfl, rfl, by simp, fun i hi => hpush i (by have := I.size; omega)⟩

/-- A block without memory of its own. -/
theorem Inv.newNil (I : Inv E n0 w0 h0 h θ M Fr w) {κ : Nat} (f : Fr κ) (b : Blk) (v : Value)
    (hb : BlkOk h (fun k => if k = κ then some (v, none) else θ k) w n0 b (v, none)) :
    Inv E n0 w0 h0 h (fun k => if k = κ then some (v, none) else θ k) (M.set κ b) (fun k => Fr k ∧ k ≠ κ) w := by
  have tle := Th.le_set (hd := ((v, none) : Hd)) (I.fresh κ f)
  refine ⟨I.agree, fun k b' e => ?_, fun k k' b b' id u u' hk hk' l l' e e' => ?_, fun k hk => ?_, I.below, I.n0le, I.hle, I.hold, I.glob⟩
  · by_cases hk : k = κ
    · subst hk
      rw [Mem.set_same] at e
      cases e
      exact ⟨_, if_pos rfl, hb⟩
    · rw [Mem.set_ne _ _ hk] at e
      obtain ⟨hd, e1, r⟩ := I.blk k b' e
      exact ⟨hd, (if_neg hk).trans e1, r.later (Hp.le.refl _) tle fun u id hu nf => ⟨rfl, rfl⟩⟩
  · by_cases hj : k = κ
    · subst hj; simp at e
    · by_cases hj' : k' = κ
      · subst hj'; simp at e'
      · rw [Mem.set_ne _ _ hj] at hk
        rw [Mem.set_ne _ _ hj'] at hk'
        rw [if_neg hj] at e
        rw [if_neg hj'] at e'
        exact I.inj k k' b b' id u u' hk hk' l l' e e'
  · simp only [hk.2, if_false]; exact I.fresh k hk.1

/-- A live block is written: nothing else turns. -/
theorem Inv.upd (I : Inv E n0 w0 h0 h θ M Fr w) {k : Nat} {b b' : Blk} {v : Value} {id : Nat} (e : M k = some b) (l : b.live) (l' : b'.live) (et : θ k = some (v, some id)) {w' : World}
    (hw : Below n0 w w') (hs : w'.heap.size = w.heap.size) (hother : ∀ i, i ≠ id → w'.heap[i]? = w.heap[i]?) (hb : BlkOk h θ w' n0 b' (v, some id)) :
    Inv E n0 w0 h0 h θ (M.set k b') Fr w' := by
  obtain ⟨o1, o2, o3⟩ := I.own e et l
  refine ⟨fun i o ei => ?_, fun j c ej => ?_, fun j j' c c' i u u' hj hj' lc lc' ej ej' => ?_, I.fresh, I.below.trans hw, I.n0le, I.hle, I.hold, I.glob⟩
  · rw [hother i (fun hi => by rw [hi, o2] at ei; cases ei)]; exact I.agree i o ei
  · by_cases hj : j = k
    · subst hj
      rw [Mem.set_same] at ej
      cases ej
      exact ⟨_, et, hb⟩
    · rw [Mem.set_ne _ _ hj] at ej
      obtain ⟨hd, e1, r⟩ := I.blk j c ej
      refine ⟨hd, e1, r.later (Hp.le.refl _) (Th.le.refl _) fun u i hu nf => ⟨hother i fun hi => ?_, rfl⟩⟩
      subst hu; subst hi
      exact hj (I.inj j k c b i u v ej e nf l e1 et)
  · have key : ∀ {j : Nat} {c : Blk}, M.set k b' j = some c → c.live → ∃ c', M j = some c' ∧ c'.live := fun {j c} hc lc => by
      by_cases hj : j = k
      · subst hj; exact ⟨b, e, l⟩
      · rw [Mem.set_ne _ _ hj] at hc; exact ⟨c, hc, lc⟩
    obtain ⟨c1, m1, l1⟩ := key hj lc
    obtain ⟨c2, m2, l2⟩ := key hj' lc'
    exact I.inj j j' c1 c2 i u u' m1 m2 l1 l2 ej ej'
end inv

/-! rows -/
theorem szE_enc (τ : ETy) (x : τ.T) : sizeC (encE τ x) = szE τ := by cases τ <;> rfl
theorem szE_pos (τ : ETy) : 0 < szE τ := by cases τ <;> decide
theorem encR_nil (τ : ETy) : encR τ [] = [] := rfl
theorem encR_cons (τ : ETy) (x : τ.T) (l : List τ.T) : encR τ (x :: l) = encE τ x ++ encR τ l := rfl
theorem encR_append (τ : ETy) (l m : List τ.T) : encR τ (l ++ m) = encR τ l ++ encR τ m := by simp [encR]
theorem sizeC_append (a b : List SV) : sizeC (a ++ b) = sizeC a + sizeC b := by
  induction a with
  | nil => simp [sizeC]
  | cons s r ih => simp only [List.cons_append, sizeC, ih]; omega
theorem sizeC_encR (τ : ETy) (l : List τ.T) : sizeC (encR τ l) = l.length * szE τ := by
  induction l with
  | nil => simp [encR_nil, sizeC]
  | cons x l ih => rw [encR_cons, sizeC_append, szE_enc, ih, List.length_cons, Nat.succ_mul]; omega
theorem RepC.app_inv {h : Hp} {θ : Th} : ∀ {cs ds : List SV} {vs : List Value}, RepC h θ (cs ++ ds) vs → RepC h θ cs (vs.take (sizeC cs)) ∧ RepC h θ ds (vs.drop (sizeC cs))
  | [], ds, vs, r => ⟨by simpa [sizeC] using RepC.nil, by simpa [sizeC] using r⟩
  | s :: ss, ds, vs, r => by
    rcases RepC.inv r with ⟨v, vs', rfl, c, rv, rs⟩ | ⟨k, n, l, vs', rfl, rfl, hl, hk, rs⟩
    · obtain ⟨r1, r2⟩ := RepC.app_inv rs
      rw [sizeC, szS_cell c, Nat.add_comm]
      exact ⟨.cell _ _ _ _ c rv r1, by simpa using r2⟩
    · obtain ⟨r1, r2⟩ := RepC.app_inv rs
      simp only [sizeC, szS]
      refine ⟨?_, ?_⟩
      · rw [List.take_append, List.take_of_length_le (by simp; omega)]
        have := RepC.arr k n l _ _ hl hk r1
        simpa [hl] using this
      · rw [List.drop_append, List.drop_of_length_le (by simp; omega)]
        simpa [hl] using r2
/-- an element of a row -/
theorem RepC.elem {h : Hp} {θ : Th} (τ : ETy) : ∀ {l : List τ.T} {vs : List Value} {j : Nat} {x : τ.T}, RepC h θ (encR τ l) vs → l[j]? = some x →
    RepC h θ (encE τ x) ((vs.drop (j * szE τ)).take (szE τ)) ∧ j * szE τ + szE τ ≤ vs.length
  | [], vs, j, x, r, e => by simp at e
  | y :: l, vs, j, x, r, e => by
    rw [encR_cons] at r
    have hlen := r.len
    rw [sizeC_append, szE_enc, sizeC_encR] at hlen
    obtain ⟨r1, r2⟩ := RepC.app_inv r
    rw [szE_enc] at r1 r2
    cases j with
    | zero =>
      simp only [List.getElem?_cons_zero, Option.some.injEq] at e
      subst e
      exact ⟨by simpa using r1, by omega⟩
    | succ j =>
      obtain ⟨q1, q2⟩ := RepC.elem τ r2 (by simpa using e)
      rw [List.length_drop] at q2
      rw [Nat.succ_mul]
      refine ⟨?_, by omega⟩
      rw [List.drop_drop] at q1
      rwa [show szE τ + j * szE τ = j * szE τ + szE τ by omega] at q1
/-- a row that lies in memory for good is a slice -/
theorem Rep.of_row {h : Hp} {θ : Th} {τ : ETy} {l : List τ.T} {id o c : Nat} {vs : List Value} (r : RepC h θ (encR τ l) vs) (hc : l.length ≤ c) (hm : l.length ≤ lim)
    (hcell : ∀ i v, vs[i]? = some v → h.cell id (o + i) = some v) : Rep h θ (.rd τ l) (.slice (some ⟨id, o, none⟩) l.length c) := by
  refine .rd τ l ⟨id, o, none⟩ c (fun j => (vs.drop (j * szE τ)).take (szE τ)) rfl hc (fun j x e => (r.elem τ e).1) (fun j i v hj e => ?_) hm
  have hlt : i < szE τ := by
    have := (List.getElem?_eq_some_iff.1 e).1
    simp at this; omega
  simp only [List.getElem?_take, hlt, if_true, List.getElem?_drop] at e
  exact hcell _ _ e
end Go.Proofs.YtchljgmcempedaaGreatDoor
