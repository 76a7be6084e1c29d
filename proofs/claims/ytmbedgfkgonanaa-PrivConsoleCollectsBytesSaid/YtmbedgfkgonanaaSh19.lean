/- Regions whose order is drawn do what the evaluator says, whatever the order: the theorem (nothing is claimed here). -/
import Derived.Test.YtmbedgfkgonanaaSh18
set_option linter.unusedVariables false
set_option linter.unusedSimpArgs false
namespace Go.Proofs.Ytmbedgfkgonanaa
open Go Go.RowKit

def dstOf (ops : Array Oper) (i : Nat) : Option Nat := (ops[i]?).bind (·.dst)
abbrev Outs := Nat → SV × Option Blk
/-- the states of a stretch in the order of the text -/
def CT (ops : Array Oper) (T : Tmps) (outs : Outs) (j : Nat) : Nat → Tmps
  | 0 => T
  | c + 1 => putT (CT ops T outs j c) (dstOf ops (j + c)) (outs (j + c)).1
def CM (M : Mem) (outs : Outs) (κ j : Nat) : Nat → Mem
  | 0 => M
  | c + 1 => (CM M outs κ j c).new (κ + c) (outs (j + c)).2
theorem CT_shift (ops : Array Oper) (T : Tmps) (outs : Outs) (j : Nat) : ∀ c, CT ops (putT T (dstOf ops j) (outs j).1) outs (j + 1) c = CT ops T outs j (c + 1)
  | 0 => rfl
  | c + 1 => by
    have ih := CT_shift ops T outs j c
    simp only [CT] at ih ⊢
    rw [ih, show j + 1 + c = j + (c + 1) by omega]
theorem CM_shift (M : Mem) (outs : Outs) (κ j : Nat) : ∀ c, CM (M.new κ (outs j).2) outs (κ + 1) (j + 1) c = CM M outs κ j (c + 1)
  | 0 => rfl
  | c + 1 => by
    have ih := CM_shift M outs κ j c
    simp only [CM] at ih ⊢
    rw [ih, show j + 1 + c = j + (c + 1) by omega, show κ + 1 + c = κ + (c + 1) by omega]
theorem CT_congr {ops : Array Oper} {T : Tmps} {outs outs' : Outs} {j : Nat} (h : ∀ i, j ≤ i → outs i = outs' i) : ∀ c, CT ops T outs j c = CT ops T outs' j c
  | 0 => rfl
  | c + 1 => by simp only [CT]; rw [CT_congr h c, h (j + c) (by omega)]
theorem CM_congr {M : Mem} {outs outs' : Outs} {κ j : Nat} (h : ∀ i, j ≤ i → outs i = outs' i) : ∀ c, CM M outs κ j c = CM M outs' κ j c
  | 0 => rfl
  | c + 1 => by simp only [CM]; rw [CM_congr h c, h (j + c) (by omega)]
theorem visM_le (bj js κs : Nat) (M : Mem) : (visM bj js κs M).le M := fun k b e => by
  unfold visM at e
  cases h1 : Nat.blt k κs with
  | true => rw [h1] at e; exact e
  | false =>
    rw [h1] at e; simp only [cond_false] at e
    cases h2 : bj.testBit (js + (k - κs)) with
    | true => rw [h2] at e; exact e
    | false => rw [h2] at e; cases e

section seg
variable {E : Env} {n0 : Nat} {w0 : World} {h0 : Hp} {Q' : Goal} {call : CallF} {ops : Array Oper} {K : St → Tree}

/-- A stretch without barriers, in the order of the text: what each of its operations comes to. -/
theorem seg (ok : EnvOk E) {js κs : Nat} {b : List Nat} : ∀ (rest : List Oper) (j : Nat), ops.toList.drop j = rest → j ≤ ops.size → ∀ {s : St} {a : Act} {w : World} {h : Hp} {θ : Th}, SRel E n0 w0 h0 h θ s a w →
    (evDraw E call ops b j js κs rest s K).holds Q' →
    ∃ (m : Nat) (outs : Outs), j ≤ m ∧ m ≤ ops.size ∧ (m = ops.size ∨ barrier b m = true) ∧ (∀ i, j ≤ i → i < m → barrier b i = false) ∧
      (∀ c, j + c < m → ∃ o, ops[j + c]? = some o ∧ opEval E ops o (CT ops s.T outs j c) (visM (b.getD (j + c) 0) js κs (CM s.M outs s.κ j c)) (s.κ + c) = some (outs (j + c)) ∧ ∀ d, o.dst = some d → d < s.n) ∧
      (evDraw E call ops b m js κs (ops.toList.drop m) ⟨CT ops s.T outs j (m - j), CM s.M outs s.κ j (m - j), s.κ + (m - j), s.n⟩ K).holds Q'
  | [], j, hj, hle, s, a, w, h, θ, R, e => by
    have hn : j = ops.size := by
      have := congrArg List.length hj
      simp at this; omega
    subst hn
    refine ⟨ops.size, fun _ => (.undef, none), Nat.le_refl _, Nat.le_refl _, .inl rfl, fun i h1 h2 => by omega, fun c hc => by omega, ?_⟩
    rw [hj]
    simpa [CT, CM] using e
  | o :: rest, j, hj, hle, s, a, w, h, θ, R, e => by
    have hlen : j < ops.toList.length := by
      rcases Nat.lt_or_ge j ops.toList.length with h | h
      · exact h
      · rw [List.drop_of_length_le h] at hj; cases hj
    have hj' := hj
    rw [List.drop_eq_getElem_cons hlen] at hj'
    injection hj' with ho hrest
    have hsz : j < ops.size := by simpa using hlen
    have hoj : ops[j]? = some o := by
      rw [← ho, Array.getElem?_eq_getElem hsz]; simp
    cases hb : barrier b j with
    | true =>
      refine ⟨j, fun _ => (.undef, none), Nat.le_refl _, hle, .inr hb, fun i h1 h2 => by omega, fun c hc => by omega, ?_⟩
      rw [hj]
      simpa [CT, CM] using e
    | false =>
      simp only [evDraw, hb, cond_false] at e
      obtain ⟨v, bk, he, e, hd⟩ := evOp_false ok R.inv R.tmps (visM_le _ _ _ _) e
      have he' := opEval_mono (visM_le _ _ _ _) he
      have hdst : dstOf ops j = o.dst := by simp [dstOf, hoj]
      -- the machine's own step, in this order
      have fin : ∀ (a' : Act) (w' : World) (h' : Hp) (θ' : Th), SRel E n0 w0 h0 h' θ' ⟨putT s.T o.dst v, s.M.new s.κ bk, s.κ + 1, s.n⟩ a' w' → ∃ (m : Nat) (outs : Outs), j ≤ m ∧ m ≤ ops.size ∧ (m = ops.size ∨ barrier b m = true) ∧ (∀ i, j ≤ i → i < m → barrier b i = false) ∧
          (∀ c, j + c < m → ∃ o, ops[j + c]? = some o ∧ opEval E ops o (CT ops s.T outs j c) (visM (b.getD (j + c) 0) js κs (CM s.M outs s.κ j c)) (s.κ + c) = some (outs (j + c)) ∧ ∀ d, o.dst = some d → d < s.n) ∧
          (evDraw E call ops b m js κs (ops.toList.drop m) ⟨CT ops s.T outs j (m - j), CM s.M outs s.κ j (m - j), s.κ + (m - j), s.n⟩ K).holds Q' := fun a' w' h' θ' R' => by
        obtain ⟨m, outs, g1, g2, g3, g4, g5, g6⟩ := seg ok rest (j + 1) hrest hsz R' e
        have hT : ∀ c, CT ops (putT s.T o.dst v) outs (j + 1) c = CT ops s.T (fun i => if i = j then (v, bk) else outs i) j (c + 1) := fun c => by
          have := CT_shift ops s.T (fun i => if i = j then (v, bk) else outs i) j c
          simp only [if_true, hdst] at this
          rw [← this]
          exact CT_congr (fun i hi => by rw [if_neg (by omega)]) c
        have hM : ∀ c, CM (s.M.new s.κ bk) outs (s.κ + 1) (j + 1) c = CM s.M (fun i => if i = j then (v, bk) else outs i) s.κ j (c + 1) := fun c => by
          have := CM_shift s.M (fun i => if i = j then (v, bk) else outs i) s.κ j c
          simp only [if_true] at this
          rw [← this]
          exact CM_congr (fun i hi => by rw [if_neg (by omega)]) c
        refine ⟨m, fun i => if i = j then (v, bk) else outs i, by omega, g2, g3, fun i h1 h2 => ?_, fun c hc => ?_, ?_⟩
        · by_cases hi : i = j
          · subst hi; exact hb
          · exact g4 i (by omega) h2
        · cases c with
          | zero =>
            refine ⟨o, hoj, ?_, hd⟩
            simpa [CT, CM] using he
          | succ c =>
            obtain ⟨o', q1, q2, q3⟩ := g5 c (by omega)
            refine ⟨o', by rw [show j + (c + 1) = j + 1 + c by omega]; exact q1, ?_, q3⟩
            simp only at q2
            rw [hT, hM] at q2
            show _ = some (if j + (c + 1) = j then (v, bk) else outs (j + (c + 1)))
            rw [if_neg (by omega), show j + (c + 1) = j + 1 + c by omega, show s.κ + (c + 1) = s.κ + 1 + c by omega]
            exact q2
        · simp only at g6
          rw [hT, hM] at g6
          have hmj : m - (j + 1) + 1 = m - j := by omega
          rw [hmj] at g6
          rwa [show s.κ + (m - j) = s.κ + 1 + (m - (j + 1)) by omega]
      rcases opEval_ok ok R.inv (Nat.le_refl _) R.tmps he' with ⟨_, hwp⟩ | ⟨_, rfl, rfl⟩
      · refine wp_some (hwp _ _ fun u w' h' θ' hh ht I' ru => ?_)
        exact fin _ w' h' θ' ⟨I'.less (fun _ _ e => e) (fun k hk => ⟨by simp only at hk; omega, by simp only at hk; omega⟩), put_rep (R.tmps.mono hh ht) ru (by rw [R.size]; exact hd), by rw [put_size]; exact R.size⟩
      · exact fin (a.put o.dst undef) w h θ ⟨R.inv.less (fun _ _ e => e) (fun k hk => by simp only at hk; omega), put_rep R.tmps .undef (by rw [R.size]; exact hd), by rw [put_size]; exact R.size⟩
end seg

/-! the states of a stretch, whatever has been done of it -/
section sets
variable {ops : Array Oper} {outs : Outs} {js m κs : Nat} {T0 : Tmps} {M0 : Mem}

/-- who writes slot t -/
def wr (ops : Array Oper) (t : Nat) : Option Nat := (List.range ops.size).find? fun i => decide (dstOf ops i = some t)
def TS (ops : Array Oper) (outs : Outs) (js m : Nat) (T0 : Tmps) (S : Nat → Bool) : Tmps := fun t => match wr ops t with
  | some i => bif decide (js ≤ i) && decide (i < m) && S i then nb (outs i).1 else T0 t
  | none => T0 t
def MS (outs : Outs) (js m κs : Nat) (M0 : Mem) (S : Nat → Bool) : Mem := fun k => bif decide (κs ≤ k) && decide (js + (k - κs) < m) && S (js + (k - κs)) then (match (outs (js + (k - κs))).2 with | some b => some b | none => M0 k) else M0 k
def Single (ops : Array Oper) : Prop := ∀ i i' t, dstOf ops i = some t → dstOf ops i' = some t → i = i'
theorem dstOf_lt {i t : Nat} (h : dstOf ops i = some t) : i < ops.size := by
  unfold dstOf at h
  cases ho : ops[i]? with
  | none => rw [ho] at h; cases h
  | some o => exact (Array.getElem?_eq_some_iff.1 ho).1
theorem wr_some {t i : Nat} (h : wr ops t = some i) : dstOf ops i = some t := by
  have := List.find?_some h
  simpa using this
theorem wr_eq (hs : Single ops) {t i : Nat} (h : dstOf ops i = some t) : wr ops t = some i := by
  cases hw : wr ops t with
  | none =>
    have := List.find?_eq_none.1 hw i (by simpa using dstOf_lt h)
    simp [h] at this
  | some i' => rw [hs i' i t (wr_some hw) h]
theorem wr_none {t i : Nat} (h : wr ops t = none) : dstOf ops i ≠ some t := fun hd => by
  have := List.find?_eq_none.1 h i (by simpa using dstOf_lt hd)
  simp [hd] at this
/-- one more has been done -/
theorem TS_add (hs : Single ops) {S S' : Nat → Bool} {i : Nat} (h1 : js ≤ i) (h2 : i < m) (hS : ∀ j, S' j = (decide (j = i) || S j)) :
    TS ops outs js m T0 S' = putT (TS ops outs js m T0 S) (dstOf ops i) (outs i).1 := by
  funext t
  cases hd : dstOf ops i with
  | none =>
    simp only [putT, TS]
    cases hw : wr ops t with
    | none => rfl
    | some i' =>
      have hne : ¬ i' = i := fun h => by subst h; rw [wr_some hw] at hd; cases hd
      simp only [hS, hne, decide_false, Bool.false_or]
  | some d =>
    simp only [putT, Tmps.put]
    by_cases ht : t = d
    · subst ht
      rw [Nat.beq_refl]
      simp only [cond_true, TS, wr_eq hs hd, hS, decide_true, Bool.true_or, h1, h2, Bool.and_self]
    · rw [beq_ne ht]
      simp only [cond_false, TS]
      cases hw : wr ops t with
      | none => rfl
      | some i' =>
        have hne : ¬ i' = i := fun h => by
          subst h
          have := wr_some hw
          rw [hd] at this
          exact ht (by injection this with this; exact this.symm)
        simp only [hS, hne, decide_false, Bool.false_or]
theorem MS_add {S S' : Nat → Bool} {i : Nat} (h1 : js ≤ i) (h2 : i < m) (hi : S i = false) (hS : ∀ j, S' j = (decide (j = i) || S j)) :
    MS outs js m κs M0 S' = (MS outs js m κs M0 S).new (κs + (i - js)) (outs i).2 := by
  funext k
  by_cases hk : k = κs + (i - js)
  · subst hk
    have e1 : js + (κs + (i - js) - κs) = i := by omega
    have e2 : κs ≤ κs + (i - js) := by omega
    cases hb : (outs i).2 with
    | none =>
      show MS outs js m κs M0 S' _ = MS outs js m κs M0 S _
      unfold MS
      rw [e1, hb, hi]
      cases (decide (κs ≤ κs + (i - js)) && decide (i < m) && S' i) <;> cases (decide (κs ≤ κs + (i - js)) && decide (i < m)) <;> rfl
    | some b =>
      show MS outs js m κs M0 S' _ = (MS outs js m κs M0 S).set _ b _
      rw [Mem.set_same]
      unfold MS
      rw [e1, hb, hS i, decide_eq_true h2, decide_eq_true e2, decide_eq_true rfl]
      rfl
  · have key : MS outs js m κs M0 S' k = MS outs js m κs M0 S k := by
      by_cases hk2 : κs ≤ k
      · have hne : ¬ js + (k - κs) = i := by omega
        simp only [MS, hS, hne, decide_false, Bool.false_or]
      · simp only [MS, hk2, decide_false, Bool.false_and]
    rw [key]
    cases (outs i).2 with
    | none => rfl
    | some b => exact (Mem.set_ne _ _ hk).symm
/-- the order of the text -/
theorem CT_eq (hs : Single ops) : ∀ c, js + c ≤ m → CT ops T0 outs js c = TS ops outs js m T0 fun i => decide (i < js + c)
  | 0, hc => by
    funext t
    simp only [CT, TS, Nat.add_zero]
    cases wr ops t with
    | none => rfl
    | some i =>
      by_cases h1 : js ≤ i
      · have : ¬ i < js := by omega
        simp [this]
      · simp [h1]
  | c + 1, hc => by
    simp only [CT]
    rw [CT_eq hs c (by omega)]
    exact (TS_add hs (by omega) (by omega) fun j => by
      have : (j < js + (c + 1)) ↔ (j = js + c ∨ j < js + c) := by omega
      simp [this]).symm
theorem CM_eq : ∀ c, js + c ≤ m → CM M0 outs κs js c = MS outs js m κs M0 fun i => decide (i < js + c)
  | 0, hc => by
    funext k
    simp only [CM, MS, Nat.add_zero]
    have : ¬ js + (k - κs) < js := by omega
    simp [this]
  | c + 1, hc => by
    simp only [CM]
    rw [CM_eq c (by omega)]
    have := MS_add (outs := outs) (M0 := M0) (κs := κs) (js := js) (m := m) (i := js + c) (S := fun i => decide (i < js + c)) (S' := fun i => decide (i < js + (c + 1))) (by omega) (by omega) (by simp) fun j => by
      have : (j < js + (c + 1)) ↔ (j = js + c ∨ j < js + c) := by omega
      simp [this]
    rw [this, Nat.add_sub_cancel_left]
end sets
end Go.Proofs.Ytmbedgfkgonanaa
