/- Regions whose order is drawn do what the evaluator says, whatever the order: the theorem (nothing is claimed here). -/
import Derived.Test.YtchljgmcempedaaGreatDoorSh18
set_option linter.unusedVariables false
set_option linter.unusedSimpArgs false
namespace Go.Proofs.YtchljgmcempedaaGreatDoor
open Go Go.RowKit

def dstOf (ops : Array Oper) (i : Nat) : Option Nat := (ops[i]?).bind (·.dst)
abbrev Outs := Nat → SV × Option (Nat × Blk)
/-- the states of a stretch in the order of the text -/
def CT (ops : Array Oper) (T : Tmps) (outs : Outs) (j : Nat) : Nat → Tmps
  | 0 => T
  | c + 1 => putT (CT ops T outs j c) (dstOf ops (j + c)) (outs (j + c)).1
def CM (M : Mem) (outs : Outs) (j : Nat) : Nat → Mem
  | 0 => M
  | c + 1 => (CM M outs j c).newK (outs (j + c)).2
theorem CT_shift (ops : Array Oper) (T : Tmps) (outs : Outs) (j : Nat) : ∀ c, CT ops (putT T (dstOf ops j) (outs j).1) outs (j + 1) c = CT ops T outs j (c + 1)
  | 0 => rfl
  | c + 1 => by
    have ih := CT_shift ops T outs j c
    simp only [CT] at ih ⊢
    rw [ih, show j + 1 + c = j + (c + 1) by omega]
theorem CM_shift (M : Mem) (outs : Outs) (j : Nat) : ∀ c, CM (M.newK (outs j).2) outs (j + 1) c = CM M outs j (c + 1)
  | 0 => rfl
  | c + 1 => by
    have ih := CM_shift M outs j c
    simp only [CM] at ih ⊢
    rw [ih, show j + 1 + c = j + (c + 1) by omega]
theorem CT_congr {ops : Array Oper} {T : Tmps} {outs outs' : Outs} {j : Nat} (h : ∀ i, j ≤ i → outs i = outs' i) : ∀ c, CT ops T outs j c = CT ops T outs' j c
  | 0 => rfl
  | c + 1 => by simp only [CT]; rw [CT_congr h c, h (j + c) (by omega)]
theorem CM_congr {M : Mem} {outs outs' : Outs} {j : Nat} (h : ∀ i, j ≤ i → outs i = outs' i) : ∀ c, CM M outs j c = CM M outs' j c
  | 0 => rfl
  | c + 1 => by simp only [CM]; rw [CM_congr h c, h (j + c) (by omega)]
theorem visM_see {b : List Nat} {ws : List (Nat × Nat)} {j js κs k : Nat} {M : Mem} {bk : Blk} (e : visM b ws j js κs M k = some bk) : M k = some bk ∧ hid b j k ws = false ∧ (κs ≤ k → (b.getD j 0).testBit (js + (k - κs)) = true) := by
  unfold visM at e
  cases h2 : hid b j k ws with
  | true => rw [h2] at e; cases e
  | false =>
    rw [h2] at e; simp only [cond_false] at e
    cases h1 : Nat.blt k κs with
    | true =>
      rw [h1] at e
      have := blt_lt h1
      exact ⟨e, rfl, fun h => by omega⟩
    | false =>
      rw [h1] at e; simp only [cond_false] at e
      cases h3 : (b.getD j 0).testBit (js + (k - κs)) with
      | true => rw [h3] at e; exact ⟨e, rfl, fun _ => rfl⟩
      | false => rw [h3] at e; cases e
theorem visM_le (b : List Nat) (ws : List (Nat × Nat)) (j js κs : Nat) (M : Mem) : (visM b ws j js κs M).le M := fun k bk e => (visM_see e).1
theorem hid_false {b : List Nat} {j k i : Nat} : ∀ {ws : List (Nat × Nat)}, hid b j k ws = false → hasW i k ws = true → i = j ∨ ordd b i j = true
  | [], _, h => by cases h
  | p :: r, h1, h2 => by
    simp only [hid, Bool.or_eq_false_iff] at h1
    simp only [hasW, Bool.or_eq_true, Bool.and_eq_true] at h2
    rcases h2 with ⟨h3, h4⟩ | h2
    · have e1 := Nat.eq_of_beq_eq_true h3
      have e2 := Nat.eq_of_beq_eq_true h4
      have h1 := h1.1
      rw [e1, e2, Nat.beq_refl, Bool.true_and] at h1
      cases hq : Nat.beq i j with
      | true => exact .inl (Nat.eq_of_beq_eq_true hq)
      | false =>
        rw [hq] at h1
        cases ho : ordd b i j with
        | true => exact .inr rfl
        | false => rw [ho] at h1; simp at h1
    · exact hid_false h1.2 h2

section seg
variable {E : Env} {n0 : Nat} {w0 : World} {h0 : Hp} {H : Tree → Prop} {hk : Hooks} {Kp : KT} {ops : Array Oper} {K : St → Tree}

/-- which blocks an operation of a stretch writes: a new one, or one that it is known to write -/
def KeyOk (b : List Nat) (ws : List (Nat × Nat)) (js κ κs i : Nat) (o : Option (Nat × Blk)) : Prop := ∀ k bk, o = some (k, bk) → k = κ ∨ (hasW i k ws = true ∧ hid b i k ws = false ∧ (κs ≤ k → (b.getD i 0).testBit (js + (k - κs)) = true))
/-- A stretch without barriers, in the order of the text: what each of its operations comes to. -/
theorem seg (ok : EnvOk E) (C : Closed H) {js κs : Nat} {ws : List (Nat × Nat)} {b : List Nat} : ∀ (rest : List Oper) (j : Nat), ops.toList.drop j = rest → j ≤ ops.size → ∀ {s : St} {a : Act} {w : World} {h : Hp} {θ : Th}, SRel E n0 w0 h0 h θ s a w →
    H (evDraw E hk ops b Kp j js κs ws rest s K) →
    ∃ (m : Nat) (outs : Outs), j ≤ m ∧ m ≤ ops.size ∧ (m = ops.size ∨ barrier b m = true) ∧ (∀ i, j ≤ i → i < m → barrier b i = false) ∧
      (∀ c, j + c < m → ∃ o, ops[j + c]? = some o ∧ opEval E ops o (CT ops s.T outs j c) (visM b ws (j + c) js κs (CM s.M outs j c)) (s.κ + c) = some (outs (j + c)) ∧ (∀ d, o.dst = some d → d < s.n) ∧ KeyOk b ws js (s.κ + c) κs (j + c) (outs (j + c)).2) ∧
      H (evDraw E hk ops b Kp m js κs ws (ops.toList.drop m) ⟨CT ops s.T outs j (m - j), CM s.M outs j (m - j), s.κ + (m - j), s.n⟩ K)
  | [], j, hj, hle, s, a, w, h, θ, R, e => by
    have hn : j = ops.size := by
      have := congrArg List.length hj
      simp at this; omega
    subst hn
    refine ⟨ops.size, fun _ => (.undef, none), Nat.le_refl _, Nat.le_refl _, .inl rfl, fun i h1 h2 => by omega, fun c hc => by omega, ?_⟩
    rw [hj]
    simpa [CT, CM] using e
  | o :: rest, j, hj, hle, s, a, w, h, θ, R, e => by
    have hlen : j < ops.toList.length := by
      rcases Nat.lt_or_ge j ops.toList.length with h | h
      · exact h
      · rw [List.drop_of_length_le h] at hj; cases hj
    have hj' := hj
    rw [List.drop_eq_getElem_cons hlen] at hj'
    injection hj' with ho hrest
    have hsz : j < ops.size := by simpa using hlen
    have hoj : ops[j]? = some o := by
      rw [← ho, Array.getElem?_eq_getElem hsz]; simp
    cases hb : barrier b j with
    | true =>
      refine ⟨j, fun _ => (.undef, none), Nat.le_refl _, hle, .inr hb, fun i h1 h2 => by omega, fun c hc => by omega, ?_⟩
      rw [hj]
      simpa [CT, CM] using e
    | false =>
      simp only [evDraw, hb, cond_false] at e
      obtain ⟨v, bk, he, e, hd, hkey⟩ := evFree_ok ok C R.inv R.tmps (visM_le _ _ _ _ _ _) e
      have hkey : KeyOk b ws js s.κ κs j bk := fun k bk' hk => by
        rcases hkey k bk' hk with h | ⟨h2, b', h3⟩
        · exact .inl h
        · exact .inr ⟨h2, (visM_see h3).2⟩
      have he' := opEval_mono (visM_le _ _ _ _ _ _) he
      have hdst : dstOf ops j = o.dst := by simp [dstOf, hoj]
      -- the machine's own step, in this order
      have fin : ∀ (a' : Act) (w' : World) (h' : Hp) (θ' : Th), SRel E n0 w0 h0 h' θ' ⟨putT s.T o.dst v, s.M.newK bk, s.κ + 1, s.n⟩ a' w' → ∃ (m : Nat) (outs : Outs), j ≤ m ∧ m ≤ ops.size ∧ (m = ops.size ∨ barrier b m = true) ∧ (∀ i, j ≤ i → i < m → barrier b i = false) ∧
          (∀ c, j + c < m → ∃ o, ops[j + c]? = some o ∧ opEval E ops o (CT ops s.T outs j c) (visM b ws (j + c) js κs (CM s.M outs j c)) (s.κ + c) = some (outs (j + c)) ∧ (∀ d, o.dst = some d → d < s.n) ∧ KeyOk b ws js (s.κ + c) κs (j + c) (outs (j + c)).2) ∧
          H (evDraw E hk ops b Kp m js κs ws (ops.toList.drop m) ⟨CT ops s.T outs j (m - j), CM s.M outs j (m - j), s.κ + (m - j), s.n⟩ K) := fun a' w' h' θ' R' => by
        obtain ⟨m, outs, g1, g2, g3, g4, g5, g6⟩ := seg ok C rest (j + 1) hrest hsz R' e
        have hT : ∀ c, CT ops (putT s.T o.dst v) outs (j + 1) c = CT ops s.T (fun i => if i = j then (v, bk) else outs i) j (c + 1) := fun c => by
          have := CT_shift ops s.T (fun i => if i = j then (v, bk) else outs i) j c
          simp only [if_true, hdst] at this
          rw [← this]
          exact CT_congr (fun i hi => by rw [if_neg (by omega)]) c
        have hM : ∀ c, CM (s.M.newK bk) outs (j + 1) c = CM s.M (fun i => if i = j then (v, bk) else outs i) j (c + 1) := fun c => by
          have := CM_shift s.M (fun i => if i = j then (v, bk) else outs i) j c
          simp only [if_true] at this
          rw [← this]
          exact CM_congr (fun i hi => by rw [if_neg (by omega)]) c
        refine ⟨m, fun i => if i = j then (v, bk) else outs i, by omega, g2, g3, fun i h1 h2 => ?_, fun c hc => ?_, ?_⟩
        · by_cases hi : i = j
          · subst hi; exact hb
          · exact g4 i (by omega) h2
        · cases c with
          | zero =>
            refine ⟨o, hoj, ?_, hd, ?_⟩
            · simpa [CT, CM] using he
            · simpa using hkey
          | succ c =>
            obtain ⟨o', q1, q2, q3, q4⟩ := g5 c (by omega)
            refine ⟨o', by rw [show j + (c + 1) = j + 1 + c by omega]; exact q1, ?_, q3, ?_⟩
            · simp only at q2
              rw [hT, hM] at q2
              show _ = some (if j + (c + 1) = j then (v, bk) else outs (j + (c + 1)))
              rw [if_neg (by omega), show j + (c + 1) = j + 1 + c by omega, show s.κ + (c + 1) = s.κ + 1 + c by omega]
              exact q2
            · show KeyOk b ws js _ κs _ (if j + (c + 1) = j then (v, bk) else outs (j + (c + 1))).2
              rw [if_neg (by omega), show j + (c + 1) = j + 1 + c by omega, show s.κ + (c + 1) = s.κ + 1 + c by omega]
              exact q4
        · simp only at g6
          rw [hT, hM] at g6
          have hmj : m - (j + 1) + 1 = m - j := by omega
          rw [hmj] at g6
          rwa [show s.κ + (m - j) = s.κ + 1 + (m - (j + 1)) by omega]
      rcases opEval_ok ok R.inv (Nat.le_refl _) R.tmps he' with ⟨_, hwp⟩ | ⟨_, rfl, rfl⟩
      · refine wp_some (r := none) (hwp _ _ fun u w' h' θ' hh ht I' ru => ?_)
        exact fin _ w' h' θ' ⟨I'.less (fun _ _ e => e) (fun k hk => ⟨by simp only at hk; omega, by simp only at hk; omega⟩), put_rep (R.tmps.mono hh ht) ru (by rw [R.size]; exact hd), by rw [put_size]; exact R.size⟩
      · exact fin (a.put o.dst undef) w h θ ⟨R.inv.less (fun _ _ e => e) (fun k hk => by simp only at hk; omega), put_rep R.tmps .undef (by rw [R.size]; exact hd), by rw [put_size]; exact R.size⟩
end seg

/-! the states of a stretch, whatever has been done of it -/
section sets
variable {ops : Array Oper} {outs : Outs} {js m : Nat} {T0 : Tmps} {M0 : Mem}

/-- who writes slot t -/
def wr (ops : Array Oper) (t : Nat) : Option Nat := (List.range ops.size).find? fun i => decide (dstOf ops i = some t)
def TS (ops : Array Oper) (outs : Outs) (js m : Nat) (T0 : Tmps) (S : Nat → Bool) : Tmps := fun t => match wr ops t with
  | some i => bif decide (js ≤ i) && decide (i < m) && S i then nb (outs i).1 else T0 t
  | none => T0 t
def MSr (outs : Outs) (js : Nat) (M0 : Mem) (S : Nat → Bool) : Nat → Mem
  | 0 => M0
  | c + 1 => bif S (js + c) then (MSr outs js M0 S c).newK (outs (js + c)).2 else MSr outs js M0 S c
def MS (outs : Outs) (js m : Nat) (M0 : Mem) (S : Nat → Bool) : Mem := MSr outs js M0 S (m - js)
def Single (ops : Array Oper) : Prop := ∀ i i' t, dstOf ops i = some t → dstOf ops i' = some t → i = i'
theorem dstOf_lt {i t : Nat} (h : dstOf ops i = some t) : i < ops.size := by
  unfold dstOf at h
  cases ho : ops[i]? with
  | none => rw [ho] at h; cases h
  | some o => exact (Array.getElem?_eq_some_iff.1 ho).1
theorem wr_some {t i : Nat} (h : wr ops t = some i) : dstOf ops i = some t := by
  have := List.find?_some h
  simpa using this
theorem wr_eq (hs : Single ops) {t i : Nat} (h : dstOf ops i = some t) : wr ops t = some i := by
  cases hw : wr ops t with
  | none =>
    have := List.find?_eq_none.1 hw i (by simpa using dstOf_lt h)
    simp [h] at this
  | some i' => rw [hs i' i t (wr_some hw) h]
theorem wr_none {t i : Nat} (h : wr ops t = none) : dstOf ops i ≠ some t := fun hd => by
  have := List.find?_eq_none.1 h i (by simpa using dstOf_lt hd)
  simp [hd] at this
/-- one more has been done -/
theorem TS_add (hs : Single ops) {S S' : Nat → Bool} {i : Nat} (h1 : js ≤ i) (h2 : i < m) (hS : ∀ j, S' j = (decide (j = i) || S j)) :
    TS ops outs js m T0 S' = putT (TS ops outs js m T0 S) (dstOf ops i) (outs i).1 := by
  funext t
  cases hd : dstOf ops i with
  | none =>
    simp only [putT, TS]
    cases hw : wr ops t with
    | none => rfl
    | some i' =>
      have hne : ¬ i' = i := fun h => by subst h; rw [wr_some hw] at hd; cases hd
      simp only [hS, hne, decide_false, Bool.false_or]
  | some d =>
    simp only [putT, Tmps.put]
    by_cases ht : t = d
    · subst ht
      rw [Nat.beq_refl]
      simp only [cond_true, TS, wr_eq hs hd, hS, decide_true, Bool.true_or, h1, h2, Bool.and_self]
    · rw [beq_ne ht]
      simp only [cond_false, TS]
      cases hw : wr ops t with
      | none => rfl
      | some i' =>
        have hne : ¬ i' = i := fun h => by
          subst h
          have := wr_some hw
          rw [hd] at this
          exact ht (by injection this with this; exact this.symm)
        simp only [hS, hne, decide_false, Bool.false_or]
theorem newK_at (M : Mem) (o : Option (Nat × Blk)) (k : Nat) : M.newK o k = (match o with
    | some p => bif Nat.beq k p.1 then some p.2 else M k
    | none => M k) := by
  cases o <;> rfl
theorem newK_comm {M : Mem} {o o' : Option (Nat × Blk)} (h : ∀ k b k' b', o = some (k, b) → o' = some (k', b') → k ≠ k') : (M.newK o).newK o' = (M.newK o').newK o := by
  cases o with
  | none => rfl
  | some p => cases o' with
    | none => rfl
    | some q =>
      obtain ⟨k, b⟩ := p
      obtain ⟨k', b'⟩ := q
      have hne := h k b k' b' rfl rfl
      funext x
      simp only [newK_at]
      by_cases h1 : x = k
      · subst h1; rw [Nat.beq_refl, beq_ne hne]; rfl
      · rw [beq_ne h1]
        rfl
theorem MSr_same {S S' : Nat → Bool} : ∀ c, (∀ i, js ≤ i → i < js + c → S' i = S i) → MSr outs js M0 S' c = MSr outs js M0 S c
  | 0, _ => rfl
  | c + 1, h => by
    simp only [MSr]
    rw [h (js + c) (by omega) (by omega), MSr_same c fun i h1 h2 => h i h1 (by omega)]
theorem MS_add {S S' : Nat → Bool} {i : Nat} (h1 : js ≤ i) (h2 : i < m) (hi : S i = false) (hS : ∀ j, S' j = (decide (j = i) || S j))
    (hc : ∀ j, i < j → j < m → S j = true → ∀ k b k' b', (outs i).2 = some (k, b) → (outs j).2 = some (k', b') → k ≠ k') :
    MS outs js m M0 S' = (MS outs js m M0 S).newK (outs i).2 := by
  have key : ∀ c, js + c ≤ m → i < js + c → MSr outs js M0 S' c = (MSr outs js M0 S c).newK (outs i).2 := by
    intro c
    induction c with
    | zero => intro _ h; omega
    | succ c ih =>
      intro hm hl
      simp only [MSr]
      by_cases hic : js + c = i
      · rw [hS, hic, hi]
        simp only [decide_true, Bool.true_or, cond_true, cond_false]
        rw [MSr_same (S := S) (S' := S') c fun j q1 q2 => by rw [hS]; simp [show ¬ j = i by omega]]
      · rw [hS, ih (by omega) (by omega)]
        simp only [hic, decide_false, Bool.false_or]
        cases hq : S (js + c) with
        | false => rfl
        | true =>
          simp only [cond_true]
          exact newK_comm fun k b k' b' e1 e2 => hc (js + c) (by omega) (by omega) hq k b k' b' e1 e2
  exact key (m - js) (by omega) (by omega)
/-- the order of the text -/
theorem CT_eq (hs : Single ops) : ∀ c, js + c ≤ m → CT ops T0 outs js c = TS ops outs js m T0 fun i => decide (i < js + c)
  | 0, hc => by
    funext t
    simp only [CT, TS, Nat.add_zero]
    cases wr ops t with
    | none => rfl
    | some i =>
      by_cases h1 : js ≤ i
      · have : ¬ i < js := by omega
        simp [this]
      · simp [h1]
  | c + 1, hc => by
    simp only [CT]
    rw [CT_eq hs c (by omega)]
    exact (TS_add hs (by omega) (by omega) fun j => by
      have : (j < js + (c + 1)) ↔ (j = js + c ∨ j < js + c) := by omega
      simp [this]).symm
theorem CM_eq (c : Nat) (hc : js + c ≤ m) : CM M0 outs js c = MS outs js m M0 fun i => decide (i < js + c) := by
  have h1 : ∀ d, d ≤ c → MSr outs js M0 (fun i => decide (i < js + c)) d = CM M0 outs js d := by
    intro d
    induction d with
    | zero => intro _; rfl
    | succ d ih =>
      intro hd
      simp only [MSr, CM]
      rw [ih (by omega), decide_eq_true (show js + d < js + c by omega)]; rfl
  have h2 : ∀ d, MSr outs js M0 (fun i => decide (i < js + c)) (c + d) = MSr outs js M0 (fun i => decide (i < js + c)) c := by
    intro d
    induction d with
    | zero => rfl
    | succ d ih =>
      show (bif decide (js + (c + d) < js + c) then _ else _) = _
      rw [decide_eq_false (show ¬ js + (c + d) < js + c by omega)]
      exact ih
  unfold MS
  rw [show m - js = c + (m - js - c) by omega, h2, h1 c (Nat.le_refl _)]
/-- a block as it stands, whoever else has been done -/
theorem MSr_at {S S' : Nat → Bool} {k : Nat} : ∀ c, (∀ i, js ≤ i → i < js + c → ∀ b, (outs i).2 = some (k, b) → S' i = S i) → MSr outs js M0 S' c k = MSr outs js M0 S c k
  | 0, _ => rfl
  | c + 1, h => by
    have ih := MSr_at (S := S) (S' := S') (k := k) c fun i h1 h2 => h i h1 (by omega)
    have hh := h (js + c) (by omega) (by omega)
    simp only [MSr]
    cases ho : (outs (js + c)).2 with
    | none =>
      cases S' (js + c) <;> cases S (js + c) <;> exact ih
    | some p =>
      obtain ⟨k', b⟩ := p
      by_cases hk : k = k'
      · subst hk
        rw [hh b ho]
        cases S (js + c) with
        | false => exact ih
        | true => simp only [cond_true, newK_at, Nat.beq_refl]
      · have : ∀ M : Mem, M.newK (some (k', b)) k = M k := fun M => by rw [newK_at]; simp only [beq_ne hk, cond_false]
        cases S' (js + c) <;> cases S (js + c) <;> simp only [cond_true, cond_false, this] <;> exact ih
end sets
end Go.Proofs.YtchljgmcempedaaGreatDoor
