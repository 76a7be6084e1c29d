/- What a symbolic value stands for in memory (definitions and small lemmas; nothing is claimed here). -/
import Derived.Test.YtchljgmcempedaaGreatDoorSh1
import Derived.Laws.CopyRow
import Derived.Laws.Tables
import Derived.Below
set_option linter.unusedVariables false
set_option linter.unusedSimpArgs false
namespace Go.Proofs.YtchljgmcempedaaGreatDoor
open Go Go.RowKit

abbrev Hp := Nat → Option Obj
abbrev Hd := Value × Option Nat
abbrev Th := Nat → Option Hd
def Hp.cell (h : Hp) (b o : Nat) : Option Value := match h b with
  | some (.cells c _ _) => c[o]?
  | _ => none
def Hp.le (h h' : Hp) : Prop := ∀ b o, h b = some o → h' b = some o
def Th.le (θ θ' : Th) : Prop := ∀ k x, θ k = some x → θ' k = some x
theorem Hp.le.refl (h : Hp) : h.le h := fun _ _ e => e
theorem Th.le.refl (θ : Th) : θ.le θ := fun _ _ e => e
theorem Hp.le.trans {a b c : Hp} (h : a.le b) (g : b.le c) : a.le c := fun _ _ e => g _ _ (h _ _ e)
theorem Th.le.trans {a b c : Th} (h : a.le b) (g : b.le c) : a.le c := fun _ _ e => g _ _ (h _ _ e)
theorem Hp.le.cell {h h' : Hp} (g : h.le h') {b o : Nat} {v : Value} (e : h.cell b o = some v) : h'.cell b o = some v := by
  unfold Hp.cell at *
  cases hb : h b with
  | none => rw [hb] at e; cases e
  | some x => rw [hb] at e; rw [g _ _ hb]; exact e

def okI (k : IntKind) (n : Int) : Prop := k.min ≤ n ∧ n ≤ k.max
def okV : Value → Prop
  | .int k n => okI k n
  | .string s => s.size ≤ lim
  | .agg _ | .tuple _ => False
  | _ => True

mutual
inductive Rep (h : Hp) (θ : Th) : SV → Value → Prop where
  | v (x : Value) : okV x → Rep h θ (.v x) x
  | b (q : Bool) : Rep h θ (.b q) (.bool q)
  | undef : Rep h θ .undef Go.undef
  | junk (x : Value) : Rep h θ .junk x
  | rdnil (τ : ETy) (a : Option Addr) (c : Nat) : Rep h θ (.rd τ []) (.slice a 0 c)
  | rd (τ : ETy) (l : List τ.T) (a : Addr) (c : Nat) (vals : Nat → List Value) : a.spot = none → l.length ≤ c →
      (∀ j x, l[j]? = some x → RepC h θ (encE τ x) (vals j)) →
      (∀ j i v, j < l.length → (vals j)[i]? = some v → h.cell a.block (a.off + (j * szE τ + i)) = some v) →
      l.length ≤ lim → Rep h θ (.rd τ l) (.slice (some a) l.length c)
  | rdx (τ : ETy) (l : List τ.T) (a : Option Addr) (n : Nat) : Rep h θ (.rd τ l) (.slice a n n) → Rep h θ (.rdx τ l) (.slice a n n)
  | own (k : Nat) (a : Option Addr) (n c : Nat) (o : Option Nat) : θ k = some (.slice a n c, o) → Rep h θ (.own k) (.slice a n c)
  | loc (k off ix n id : Nat) : θ k = some (.pointer (some ⟨id, 0, none⟩), some id) → ix < n → Rep h θ (.loc k off ix n) (.pointer (some ⟨id, ix + off, none⟩))
  | gptr (g off ix n : Nat) : ix < n → Rep h θ (.gptr g off ix n) (.pointer (some ⟨g, ix + off, none⟩))
  | rptr (τ : ETy) (l : List τ.T) (i off : Nat) (a : Addr) (c : Nat) : Rep h θ (.rd τ l) (.slice (some a) l.length c) → i < l.length →
      Rep h θ (.rptr τ l i off) (.pointer (some ⟨a.block, a.off + (i * szE τ + off), none⟩))
  | optr (k sz i off id n c : Nat) : θ k = some (.slice (some ⟨id, 0, none⟩) n c, some id) → i < n → Rep h θ (.optr k sz i off) (.pointer (some ⟨id, i * sz + off, none⟩))
  | agg (cs : List SV) (vs : List Value) : RepC h θ cs vs → Rep h θ (.agg cs) (.agg vs.toArray)
  | tup (ss : List SV) (vs : List Value) : RepL h θ ss vs → Rep h θ (.tup ss) (.tuple vs.toArray)
  | fn (f : Fn) (fs cs : List SV) (xs ys : List Value) : RepL h θ fs xs → RepL h θ cs ys → Rep h θ (.fn f fs cs) (.func f xs.toArray ys.toArray)
  | map (k id : Nat) : θ k = some (.map (some id), some id) → Rep h θ (.map k) (.map (some id))
  | cs (k n sz id : Nat) : θ k = some (.pointer (some ⟨id, 0, none⟩), some id) → n ≤ lim → Rep h θ (.cs k n sz) (.slice (some ⟨id, 0, none⟩) n n)
  | pp (cs : List SV) (off ix n id : Nat) (vs : List Value) (ty : TypeId) (fz : Nat × Nat) : h id = some (.cells vs.toArray ty fz) → RepC h θ cs vs → ix < n → Rep h θ (.pp cs off ix n) (.pointer (some ⟨id, ix + off, none⟩))
  | yld (k id : Nat) (ts : Array Value) : θ k = some (.func (.yield id) ts #[], some id) → Rep h θ (.yld k) (.func (.yield id) #[] #[])
  | iter (k id : Nat) : θ k = some (.pointer (some ⟨id, 0, none⟩), some id) → Rep h θ (.iter k) (.pointer (some ⟨id, 0, none⟩))
  | win (k sz lo n c : Nat) (a : Option Addr) (o : Option Nat) : θ k = some (.slice a n c, o) → lo ≤ n → Rep h θ (.win k sz lo) (.slice (if c = lo then a else a.map (·.add (lo * sz))) (n - lo) (c - lo))
inductive RepC (h : Hp) (θ : Th) : List SV → List Value → Prop where
  | nil : RepC h θ [] []
  | cell (s : SV) (v : Value) (ss : List SV) (vs : List Value) : isCell s = true → Rep h θ s v → RepC h θ ss vs → RepC h θ (s :: ss) (v :: vs)
  | arr (k : IntKind) (n : Nat) (l : List Int) (ss : List SV) (vs : List Value) : l.length = n → (∀ x, x ∈ l → okI k x) → RepC h θ ss vs →
      RepC h θ (.arr k n l :: ss) (l.map (Value.int k) ++ vs)
inductive RepL (h : Hp) (θ : Th) : List SV → List Value → Prop where
  | nil : RepL h θ [] []
  | cons (s : SV) (v : Value) (ss : List SV) (vs : List Value) : Rep h θ s v → RepL h θ ss vs → RepL h θ (s :: ss) (v :: vs)
end

mutual
theorem Rep.mono {h h' : Hp} {θ θ' : Th} (hh : h.le h') (ht : θ.le θ') {s : SV} {v : Value} : Rep h θ s v → Rep h' θ' s v
  | .v x o => .v x o
  | .b q => .b q
  | .undef => .undef
  | .junk x => .junk x
  | .rdnil τ a c => .rdnil τ a c
  | .rd τ l a c vals h1 h2 h3 h4 h5 => .rd τ l a c vals h1 h2 (fun j x e => RepC.mono hh ht (h3 j x e)) (fun j i v a b => hh.cell (h4 j i v a b)) h5
  | .rdx τ l a n r => .rdx τ l a n (Rep.mono hh ht r)
  | .own k a n c o e => .own k a n c o (ht _ _ e)
  | .loc k off ix n id e l => .loc k off ix n id (ht _ _ e) l
  | .gptr g off ix n l => .gptr g off ix n l
  | .rptr τ l i off a c r e => .rptr τ l i off a c (Rep.mono hh ht r) e
  | .optr k sz i off id n c e l => .optr k sz i off id n c (ht _ _ e) l
  | .agg cs vs r => .agg cs vs (RepC.mono hh ht r)
  | .tup ss vs r => .tup ss vs (RepL.mono hh ht r)
  | .fn f fs cs xs ys r1 r2 => .fn f fs cs xs ys (RepL.mono hh ht r1) (RepL.mono hh ht r2)
  | .map k id e => .map k id (ht _ _ e)
  | .cs k n sz id e l => .cs k n sz id (ht _ _ e) l
  | .pp cs off ix n id vs ty fz e r l => .pp cs off ix n id vs ty fz (hh _ _ e) (RepC.mono hh ht r) l
  | .yld k id ts e => .yld k id ts (ht _ _ e)
  | .iter k id e => .iter k id (ht _ _ e)
  | .win k sz lo n c a o e l => .win k sz lo n c a o (ht _ _ e) l
theorem RepC.mono {h h' : Hp} {θ θ' : Th} (hh : h.le h') (ht : θ.le θ') {s : List SV} {v : List Value} : RepC h θ s v → RepC h' θ' s v
  | .nil => .nil
  | .cell s v ss vs c r rs => .cell s v ss vs c (Rep.mono hh ht r) (RepC.mono hh ht rs)
  | .arr k n l ss vs a b rs => .arr k n l ss vs a b (RepC.mono hh ht rs)
theorem RepL.mono {h h' : Hp} {θ θ' : Th} (hh : h.le h') (ht : θ.le θ') {s : List SV} {v : List Value} : RepL h θ s v → RepL h' θ' s v
  | .nil => .nil
  | .cons s v ss vs r rs => .cons s v ss vs (Rep.mono hh ht r) (RepL.mono hh ht rs)
end

/-! cells -/
section cells
variable {h : Hp} {θ : Th}
theorem blt_lt {a b : Nat} (h : Nat.blt a b = true) : a < b := Nat.le_of_ble_eq_true h
theorem blt_ge {a b : Nat} (h : Nat.blt a b = false) : b ≤ a := by
  rcases Nat.lt_or_ge a b with g | g
  · have : Nat.blt a b = true := Nat.ble_eq_true_of_le g
    rw [this] at h; cases h
  · exact g
theorem okV_one {x : Value} (o : okV x) : x.oneCell' = true := by cases x <;> first | rfl | exact o.elim
theorem isCell_one {s : SV} {v : Value} (c : isCell s = true) (r : Rep h θ s v) : v.oneCell' = true := by
  cases r with
  | v _ o => exact okV_one o
  | b q => rfl
  | undef => simp [isCell] at c
  | junk x => simp [isCell] at c
  | agg cs vs r => simp [isCell] at c
  | tup ss vs r => simp [isCell] at c
  | _ => rfl
theorem RepC.inv {s : SV} {ss : List SV} {vs : List Value} (r : RepC h θ (s :: ss) vs) :
    (∃ v vs', vs = v :: vs' ∧ isCell s = true ∧ Rep h θ s v ∧ RepC h θ ss vs') ∨
    (∃ k n l vs', s = .arr k n l ∧ vs = l.map (Value.int k) ++ vs' ∧ l.length = n ∧ (∀ x, x ∈ l → okI k x) ∧ RepC h θ ss vs') := by
  cases r with
  | cell s v ss vs c r rs => exact .inl ⟨v, vs, rfl, c, r, rs⟩
  | arr k n l ss vs a b rs => exact .inr ⟨k, n, l, vs, rfl, rfl, a, b, rs⟩
theorem RepC.nil_inv {vs : List Value} (r : RepC h θ [] vs) : vs = [] := by cases r; rfl
theorem szS_cell {s : SV} (c : isCell s = true) : szS s = 1 := by cases s <;> first | rfl | simp [isCell] at c
theorem RepC.len : ∀ {cs : List SV} {vs : List Value}, RepC h θ cs vs → vs.length = sizeC cs
  | [], vs, r => by rw [r.nil_inv]; rfl
  | s :: ss, vs, r => by
    rcases r.inv with ⟨v, vs', rfl, c, _, rs⟩ | ⟨k, n, l, vs', rfl, rfl, hl, _, rs⟩
    · have := rs.len; simp only [List.length_cons, sizeC, szS_cell c]; omega
    · have := rs.len; simp only [List.length_append, List.length_map, sizeC, szS]; omega
theorem splitC_len : ∀ {cs p q : List SV} {off : Nat}, splitC cs off = some (p, q) → sizeC p = off ∧ sizeC cs = off + sizeC q
  | cs, p, q, 0, e => by
    simp only [splitC, Option.some.injEq, Prod.mk.injEq] at e
    obtain ⟨rfl, rfl⟩ := e; exact ⟨rfl, by simp⟩
  | [], p, q, off + 1, e => by simp [splitC] at e
  | s :: r, p, q, off + 1, e => by
    simp only [splitC] at e
    cases hb : Nat.ble (szS s) (off + 1) with
    | false => rw [hb] at e; cases e
    | true =>
      rw [hb] at e; simp only [cond_true] at e
      cases hs : splitC r (off + 1 - szS s) with
      | none => rw [hs] at e; cases e
      | some x =>
        obtain ⟨p', q'⟩ := x
        rw [hs] at e; simp only [Option.map_some, Option.some.injEq, Prod.mk.injEq] at e
        obtain ⟨rfl, rfl⟩ := e
        obtain ⟨h1, h2⟩ := splitC_len hs
        have := Nat.le_of_ble_eq_true hb
        simp only [sizeC]; omega
theorem RepC.split : ∀ {cs p q : List SV} {off : Nat} {vs : List Value}, splitC cs off = some (p, q) → RepC h θ cs vs → RepC h θ p (vs.take off) ∧ RepC h θ q (vs.drop off)
  | cs, p, q, 0, vs, e, r => by
    simp only [splitC, Option.some.injEq, Prod.mk.injEq] at e
    obtain ⟨rfl, rfl⟩ := e; exact ⟨by simpa using RepC.nil, by simpa using r⟩
  | [], p, q, off + 1, vs, e, r => by simp [splitC] at e
  | s :: ss, p, q, off + 1, vs, e, r => by
    simp only [splitC] at e
    cases hb : Nat.ble (szS s) (off + 1) with
    | false => rw [hb] at e; cases e
    | true =>
      rw [hb] at e; simp only [cond_true] at e
      cases hs : splitC ss (off + 1 - szS s) with
      | none => rw [hs] at e; cases e
      | some x =>
        obtain ⟨p', q'⟩ := x
        rw [hs] at e; simp only [Option.map_some, Option.some.injEq, Prod.mk.injEq] at e
        obtain ⟨rfl, rfl⟩ := e
        have hle := Nat.le_of_ble_eq_true hb
        rcases r.inv with ⟨v, vs', rfl, c, rv, rs⟩ | ⟨k, n, l, vs', rfl, rfl, hl, hk, rs⟩
        · rw [szS_cell c] at hs
          obtain ⟨h1, h2⟩ := rs.split hs
          simp only [Nat.add_sub_cancel] at h1 h2
          exact ⟨by simpa using RepC.cell s v _ _ c rv h1, by simpa using h2⟩
        · simp only [szS] at hs hle
          obtain ⟨h1, h2⟩ := rs.split hs
          refine ⟨?_, ?_⟩
          · have := RepC.arr k n l _ _ hl hk h1
            rw [List.take_append]
            rw [List.take_of_length_le (by simp; omega)]
            simpa [hl] using this
          · rw [List.drop_append, List.drop_of_length_le (by simp; omega)]
            simpa [hl] using h2
theorem RepC.append : ∀ {cs ds : List SV} {vs ws : List Value}, RepC h θ cs vs → RepC h θ ds ws → RepC h θ (cs ++ ds) (vs ++ ws)
  | [], ds, vs, ws, r, q => by rw [r.nil_inv]; exact q
  | s :: ss, ds, vs, ws, r, q => by
    rcases r.inv with ⟨v, vs', rfl, c, rv, rs⟩ | ⟨k, n, l, vs', rfl, rfl, hl, hk, rs⟩
    · exact .cell _ _ _ _ c rv (rs.append q)
    · rw [List.append_assoc]; exact .arr _ _ _ _ _ hl hk (rs.append q)
theorem RepC.take {cs ns : List SV} {off size : Nat} {vs : List Value} (e : takeC cs off size = some ns) (r : RepC h θ cs vs) :
    RepC h θ ns ((vs.drop off).take size) ∧ off + size ≤ vs.length := by
  unfold takeC at e
  cases hs : splitC cs off with
  | none => rw [hs] at e; cases e
  | some x =>
    obtain ⟨p, q⟩ := x
    rw [hs] at e; simp only [Option.bind_some] at e
    cases hq : splitC q size with
    | none => rw [hq] at e; cases e
    | some y =>
      obtain ⟨p', q'⟩ := y
      rw [hq] at e; simp only [Option.map_some, Option.some.injEq] at e
      subst e
      have h1 := splitC_len hs
      have h2 := splitC_len hq
      have h3 := r.len
      exact ⟨((r.split hs).2.split hq).1, by omega⟩
theorem RepC.put {cs cs' new : List SV} {off size : Nat} {vs ns : List Value} (e : putC cs off size new = some cs') (r : RepC h θ cs vs) (rn : RepC h θ new ns) (hn : ns.length = size) :
    RepC h θ cs' (vs.take off ++ ns ++ vs.drop (off + size)) ∧ off + size ≤ vs.length := by
  unfold putC at e
  cases hs : splitC cs off with
  | none => rw [hs] at e; cases e
  | some x =>
    obtain ⟨p, q⟩ := x
    rw [hs] at e; simp only [Option.bind_some] at e
    cases hq : splitC q size with
    | none => rw [hq] at e; cases e
    | some y =>
      obtain ⟨p', q'⟩ := y
      rw [hq] at e; simp only [Option.map_some, Option.some.injEq] at e
      subst e
      have h1 := splitC_len hs
      have h2 := splitC_len hq
      have h3 := r.len
      obtain ⟨r1, r2⟩ := r.split hs
      obtain ⟨r3, r4⟩ := r2.split hq
      refine ⟨?_, by omega⟩
      rw [List.append_assoc]
      refine r1.append (rn.append ?_)
      rwa [List.drop_drop] at r4
theorem RepC.get : ∀ {cs : List SV} {off ix n : Nat} {s : SV} {vs : List Value}, getC cs off ix n = some s → ix < n → RepC h θ cs vs → ∃ v, vs[ix + off]? = some v ∧ Rep h θ s v
  | [], off, ix, n, s, vs, e, hi, r => by simp [getC] at e
  | c :: cs, off, ix, n, s, vs, e, hi, r => by
    rcases r.inv with ⟨v, vs', rfl, c1, rv, rs⟩ | ⟨k, m, l, vs', rfl, rfl, hl, hk, rs⟩
    · have key : (off = 0 ∧ n = 1 ∧ s = c) ∨ (∃ o, off = o + 1 ∧ getC cs o ix n = some s) := by
        cases off with
        | zero =>
          left
          have : (bif Nat.beq n 1 then some c else none) = some s := by
            cases c <;> first | (simp [isCell] at c1; done) | simpa [getC] using e
          cases hb : Nat.beq n 1 with
          | false => rw [hb] at this; cases this
          | true => rw [hb] at this; simp only [cond_true, Option.some.injEq] at this; exact ⟨rfl, Nat.eq_of_beq_eq_true hb, this.symm⟩
        | succ o =>
          right
          refine ⟨o, rfl, ?_⟩
          cases c <;> first | (simp [isCell] at c1; done) | simpa [getC] using e
      rcases key with ⟨rfl, rfl, rfl⟩ | ⟨o, rfl, e2⟩
      · obtain rfl : ix = 0 := by omega
        exact ⟨v, rfl, rv⟩
      · obtain ⟨u, hu, ru⟩ := rs.get e2 hi
        exact ⟨u, by rw [← Nat.add_assoc]; simpa using hu, ru⟩
    · simp only [getC] at e
      cases hb : Nat.blt off m with
      | false =>
        rw [hb] at e; simp only [cond_false] at e
        obtain ⟨u, hu, ru⟩ := rs.get e hi
        have := blt_ge hb
        refine ⟨u, ?_, ru⟩
        rw [List.getElem?_append_right (by simp; omega)]
        simp only [List.length_map, hl]
        rwa [show ix + off - m = ix + (off - m) by omega]
      | true =>
        rw [hb] at e; simp only [cond_true] at e
        cases hc : Nat.ble (off + n) m with
        | false => rw [hc] at e; cases e
        | true =>
          rw [hc] at e; simp only [cond_true, Option.some.injEq] at e
          have hle := Nat.le_of_ble_eq_true hc
          have hlt : ix + off < l.length := by omega
          subst e
          refine ⟨.int k (l.getD (ix + off) 0), ?_, .v _ ?_⟩
          · rw [List.getElem?_append_left (by simp; omega)]
            simp [List.getElem?_eq_getElem hlt]
          · have : l.getD (ix + off) 0 ∈ l := by rw [List.getD_eq_getElem?_getD, List.getElem?_eq_getElem hlt]; exact List.getElem_mem _
            exact hk _ this
theorem mem_set {l : List Int} {i : Nat} {z x : Int} (h : x ∈ l.set i z) : x ∈ l ∨ x = z := List.mem_or_eq_of_mem_set h
theorem RepC.set : ∀ {cs cs' : List SV} {off ix n : Nat} {s : SV} {v : Value} {vs : List Value}, setC cs off ix n s = some cs' → ix < n → isCell s = true → Rep h θ s v → RepC h θ cs vs →
    RepC h θ cs' (vs.set (ix + off) v) ∧ ix + off < vs.length
  | [], cs', off, ix, n, s, v, vs, e, hi, hc, rv, r => by simp [setC] at e
  | c :: cs, cs', off, ix, n, s, v, vs, e, hi, hc, rv, r => by
    rcases r.inv with ⟨v0, vs', rfl, c1, rv0, rs⟩ | ⟨k, m, l, vs', rfl, rfl, hl, hk, rs⟩
    · have key : (off = 0 ∧ n = 1 ∧ cs' = s :: cs) ∨ (∃ o q, off = o + 1 ∧ setC cs o ix n s = some q ∧ cs' = c :: q) := by
        cases off with
        | zero =>
          left
          have : (bif Nat.beq n 1 then some (s :: cs) else none) = some cs' := by
            cases c <;> first | (simp [isCell] at c1; done) | simpa [setC] using e
          cases hb : Nat.beq n 1 with
          | false => rw [hb] at this; cases this
          | true => rw [hb] at this; simp only [cond_true, Option.some.injEq] at this; exact ⟨rfl, Nat.eq_of_beq_eq_true hb, this.symm⟩
        | succ o =>
          right
          have : (setC cs o ix n s).map (c :: ·) = some cs' := by
            cases c <;> first | (simp [isCell] at c1; done) | simpa [setC] using e
          cases hq : setC cs o ix n s with
          | none => rw [hq] at this; cases this
          | some q => rw [hq] at this; exact ⟨o, q, rfl, hq, (by simpa using this.symm)⟩
      rcases key with ⟨rfl, rfl, rfl⟩ | ⟨o, q, rfl, e2, rfl⟩
      · obtain rfl : ix = 0 := by omega
        exact ⟨.cell _ _ _ _ hc rv rs, by simp⟩
      · obtain ⟨r1, r2⟩ := rs.set e2 hi hc rv
        refine ⟨?_, by simp; omega⟩
        rw [← Nat.add_assoc]
        exact .cell _ _ _ _ c1 rv0 r1
    · simp only [setC] at e
      cases hb : Nat.blt off m with
      | false =>
        rw [hb] at e; simp only [cond_false] at e
        cases hq : setC cs (off - m) ix n s with
        | none => rw [hq] at e; cases e
        | some q =>
          rw [hq] at e; simp only [Option.map_some, Option.some.injEq] at e
          subst e
          obtain ⟨r1, r2⟩ := rs.set hq hi hc rv
          have := blt_ge hb
          refine ⟨?_, by simp; omega⟩
          rw [List.set_append_right _ _ (by simp; omega)]
          simp only [List.length_map, hl]
          rw [show ix + off - m = ix + (off - m) by omega]
          exact .arr _ _ _ _ _ hl hk r1
      | true =>
        rw [hb] at e; simp only [cond_true] at e
        cases hd : Nat.ble (off + n) m with
        | false => rw [hd] at e; cases e
        | true =>
          rw [hd] at e; simp only [cond_true] at e
          have hle := Nat.le_of_ble_eq_true hd
          cases rv with
          | v _ o =>
            cases v with
            | int k' z =>
              simp only at e
              cases hk' : (k == k') with
              | false => rw [hk'] at e; cases e
              | true =>
                rw [hk'] at e; simp only [cond_true, Option.some.injEq] at e
                have : k = k' := by simpa using hk'
                subst this; subst e
                refine ⟨?_, by simp; omega⟩
                rw [List.set_append_left _ _ (by simp; omega), ← List.map_set]
                refine .arr _ _ _ _ _ (by simp [hl]) ?_ rs
                intro x hx
                rcases mem_set hx with hx | rfl
                · exact hk x hx
                · exact o
            | _ => cases e
          | _ => cases e
end cells
end Go.Proofs.YtchljgmcempedaaGreatDoor
