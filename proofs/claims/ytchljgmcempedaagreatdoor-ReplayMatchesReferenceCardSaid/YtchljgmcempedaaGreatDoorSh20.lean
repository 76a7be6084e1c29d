/- Regions whose order is drawn do what the evaluator says, whatever the order: joined (nothing is claimed here). -/
import Derived.Test.YtchljgmcempedaaGreatDoorSh19
set_option linter.unusedVariables false
set_option linter.unusedSimpArgs false
namespace Go.Proofs.YtchljgmcempedaaGreatDoor
open Go Go.RowKit

structure Later (h1 : Hp) (θ1 : Th) (s1 : St) (a1 : Act) (h : Hp) (θ : Th) (s : St) (a : Act) : Prop where
  hh : h1.le h
  ht : θ1.le θ
  κ : s1.κ ≤ s.κ
  n : s.n = s1.n
  d : a.defers = a1.defers
theorem Later.refl (h1 : Hp) (θ1 : Th) (s1 : St) (a1 : Act) : Later h1 θ1 s1 a1 h1 θ1 s1 a1 := ⟨.refl _, .refl _, Nat.le_refl _, rfl, rfl⟩
theorem Later.trans {h1 h2 h3 : Hp} {θ1 θ2 θ3 : Th} {s1 s2 s3 : St} {a1 a2 a3 : Act} (l : Later h1 θ1 s1 a1 h2 θ2 s2 a2) (l' : Later h2 θ2 s2 a2 h3 θ3 s3 a3) : Later h1 θ1 s1 a1 h3 θ3 s3 a3 :=
  ⟨l.hh.trans l'.hh, l.ht.trans l'.ht, Nat.le_trans l.κ l'.κ, l'.n.trans l.n, l'.d.trans l.d⟩

/-- how many are not listed -/
def unl (S : Nat → Bool) : Nat → Nat
  | 0 => 0
  | n + 1 => (bif S n then 0 else 1) + unl S n
theorem unl_same {S S' : Nat → Bool} : ∀ {n : Nat}, (∀ j, j < n → S' j = S j) → unl S' n = unl S n
  | 0, _ => rfl
  | n + 1, h => by simp only [unl]; rw [h n (by omega), unl_same fun j hj => h j (by omega)]
theorem unl_add {S S' : Nat → Bool} {i : Nat} : ∀ {n : Nat}, (∀ j, S' j = (decide (j = i) || S j)) → S i = false → i < n → unl S' n + 1 = unl S n
  | n + 1, h, hi, hl => by
    simp only [unl]
    by_cases hn : i = n
    · subst hn
      rw [h i, hi]
      simp only [decide_true, Bool.true_or, cond_true, cond_false]
      rw [unl_same (S := S) (S' := S') fun j hj => by rw [h j]; simp [show ¬ j = i by omega]]
      omega
    · have := unl_add (n := n) h hi (by omega)
      rw [h n]
      simp only [show ¬ n = i from fun h => hn h.symm, decide_false, Bool.false_or]
      omega
theorem unl_pos {S : Nat → Bool} {i : Nat} : ∀ {n : Nat}, S i = false → i < n → 0 < unl S n
  | n + 1, hi, hl => by
    simp only [unl]
    by_cases hn : i = n
    · subst hn; rw [hi]; simp only [cond_false]; omega
    · have := unl_pos (n := n) hi (by omega); omega
theorem unl_ge (js : Nat) : ∀ n, unl (fun i => decide (i < js)) n = n - js
  | 0 => by simp [unl]
  | n + 1 => by
    simp only [unl]
    rw [unl_ge js n]
    by_cases h : n < js
    · simp only [h, decide_true, cond_true]; omega
    · simp only [h, decide_false, cond_false]; omega

section any
variable {E : Env} {n0 : Nat} {w0 : World} {h0 : Hp} {H : Tree → Prop} {r : Option Nat} {hk : Hooks} {Kp : KT} {ops : Array Oper} {K : St → Tree} {Q : Exit → Act → World → Prop}
  {h1 : Hp} {θ1 : Th} {s1 : St} {a1 : Act}

/-- what is listed -/
structure Lst (ops : Array Oper) (listed : Array Bool) (S : Nat → Bool) : Prop where
  size : listed.size = ops.size
  get : ∀ i, i < ops.size → listed[i]? = some (S i)
  closed : ∀ i j, i < ops.size → S i = true → ((beforeL [] ops.toList).getD i 0).testBit j = true → S j = true
theorem Lst.init (ops : Array Oper) : Lst ops (Array.replicate ops.size false) fun i => decide (i < 0) :=
  ⟨by simp, fun i hi => by simp [Array.getElem?_replicate, hi], fun i j hi h => by simp at h⟩
theorem Lst.same {listed : Array Bool} {S S' : Nat → Bool} (hb : backO 0 ops.toList = true) (l : Lst ops listed S) (h : ∀ i, i < ops.size → S' i = S i) : Lst ops listed S' :=
  ⟨l.size, fun i hi => by rw [l.get i hi, h i hi], fun i j hi h1 h2 => by
    have hlt := bef_lt hb i j h2
    rw [h j (by omega)]
    exact l.closed i j hi (by rw [← h i hi]; exact h1) h2⟩
theorem Lst.ready {listed : Array Bool} {S : Nat → Bool} (hb : backO 0 ops.toList = true) (l : Lst ops listed S) {i : Nat} (hr : i ∈ Region.ready .any ops listed) :
    i < ops.size ∧ S i = false ∧ ∀ j, ((beforeL [] ops.toList).getD i 0).testBit j = true → S j = true := by
  obtain ⟨h0, o, ho, hall⟩ := mem_ready.1 hr
  have hi : i < ops.size := (Array.getElem?_eq_some_iff.1 ho).1
  rw [Array.getD_eq_getD_getElem?, l.get i hi] at h0
  refine ⟨hi, h0, fun j hj => ?_⟩
  obtain ⟨e, q1, q2, q3⟩ := bef_inv ho hj
  have hlt := backO_inv hb (by simpa using ho) e q1 q2
  have := hall e (by simpa using q1) q2
  rw [Array.getD_eq_getD_getElem?, l.get e.on (by omega)] at this
  simp only [Option.getD_some] at this
  rcases q3 with rfl | ⟨_, q3⟩
  · exact this
  · exact l.closed e.on j (by omega) this q3
theorem Lst.add {listed : Array Bool} {S S' : Nat → Bool} (hb : backO 0 ops.toList = true) (l : Lst ops listed S) {i : Nat} (hr : i ∈ Region.ready .any ops listed) (hS : ∀ j, S' j = (decide (j = i) || S j)) :
    Lst ops (listed.setIfInBounds i true) S' := by
  obtain ⟨hi, h0, hbef⟩ := l.ready hb hr
  refine ⟨by simp [l.size], fun j hj => ?_, fun j k hj h1 h2 => ?_⟩
  · rw [Array.getElem?_setIfInBounds]
    by_cases hji : i = j
    · subst hji; simp [l.size, hi, hS]
    · rw [if_neg hji, l.get j hj, hS]
      simp [show ¬ j = i from fun h => hji h.symm]
  · rw [hS] at h1 ⊢
    by_cases hji : j = i
    · subst hji
      rw [hbef k h2]; simp
    · simp only [hji, decide_false, Bool.false_or] at h1
      rw [l.closed j k hj h1 h2]; simp
/-- what is left has a first -/
theorem Lst.first {listed : Array Bool} {S : Nat → Bool} (hb : backO 0 ops.toList = true) (l : Lst ops listed S) : ∀ i, i < ops.size → S i = false → Region.ready .any ops listed ≠ [] := by
  intro i
  induction i using Nat.strongRecOn with
  | _ i ih =>
    intro hi hS hnil
    by_cases hex : ∃ j, j < i ∧ S j = false
    · obtain ⟨j, hj, hSj⟩ := hex
      exact ih j hj (by omega) hSj hnil
    · have hr : i ∈ Region.ready .any ops listed := by
        refine mem_ready.2 ⟨by rw [Array.getD_eq_getD_getElem?, l.get i hi]; exact hS, ops[i], Array.getElem?_eq_getElem hi, fun e he hbd => ?_⟩
        have hlt := backO_inv (k := 0) (j := i) (o := ops[i]) hb (by simp [hi]) e (by simpa using he) hbd
        rw [Array.getD_eq_getD_getElem?, l.get e.on (by omega)]
        simp only [Option.getD_some]
        cases hq : S e.on with
        | true => rfl
        | false => exact absurd ⟨e.on, by omega, hq⟩ hex
      rw [hnil] at hr; cases hr

def Outer (E : Env) (n0 : Nat) (w0 : World) (h0 : Hp) (H : Tree → Prop) (r : Option Nat) (hk : Hooks) (Kp : KT) (ops : Array Oper) (K : St → Tree) (Q : Exit → Act → World → Prop) (h1 : Hp) (θ1 : Th) (s1 : St) (a1 : Act) (fuel : Nat) : Prop :=
  ∀ (js : Nat) (listed : Array Bool) (s : St) (a : Act) (w : World) (h : Hp) (θ : Th), js ≤ ops.size → Lst ops listed (fun i => decide (i < js)) → ops.size - js ≤ fuel → SRel E n0 w0 h0 h θ s a w → Later h1 θ1 s1 a1 h θ s a →
    ∀ ws, H (evDraw E hk ops (beforeL [] ops.toList) Kp js js s.κ ws (ops.toList.drop js) s K) → wpAnyIn (FW r) 0 E.P .any ops Q fuel listed a w

theorem TS_congr {outs : Outs} {js m : Nat} {T0 : Tmps} {S S' : Nat → Bool} (h : ∀ i, js ≤ i → i < m → S' i = S i) : TS ops outs js m T0 S' = TS ops outs js m T0 S := by
  funext t
  unfold TS
  cases wr ops t with
  | none => rfl
  | some i =>
    simp only
    by_cases h1 : js ≤ i
    · by_cases h2 : i < m
      · rw [h i h1 h2]
      · simp [h2]
    · simp [h1]
theorem MS_congr {outs : Outs} {js m : Nat} {M0 : Mem} {S S' : Nat → Bool} (h : ∀ i, js ≤ i → i < m → S' i = S i) : MS outs js m M0 S' = MS outs js m M0 S :=
  MSr_same (m - js) fun i h1 h2 => h i h1 (by omega)

/-- the keys that are still free -/
def FrS (S : Nat → Bool) (js m κs : Nat) (k : Nat) : Prop := κs ≤ k ∧ ¬ (k < κs + (m - js) ∧ S (js + (k - κs)) = true)

theorem inner (ok : EnvOk E) (C : Closed H) (hd : drawOk ops (beforeL [] ops.toList) = true) {F : Nat} (out : ∀ f, f < F → Outer E n0 w0 h0 H r hk Kp ops K Q h1 θ1 s1 a1 f)
    {js m : Nat} {ws : List (Nat × Nat)} {outs : Outs} {s : St} (hm1 : js ≤ m) (hm2 : m ≤ ops.size) (hm3 : m = ops.size ∨ barrier (beforeL [] ops.toList) m = true)
    (hev : ∀ c, js + c < m → ∃ o, ops[js + c]? = some o ∧ opEval E ops o (CT ops s.T outs js c) (visM (beforeL [] ops.toList) ws (js + c) js s.κ (CM s.M outs js c)) (s.κ + c) = some (outs (js + c)) ∧ (∀ d, o.dst = some d → d < s.n) ∧ KeyOk (beforeL [] ops.toList) ws js (s.κ + c) s.κ (js + c) (outs (js + c)).2)
    (hfin : H (evDraw E hk ops (beforeL [] ops.toList) Kp m js s.κ ws (ops.toList.drop m) ⟨CT ops s.T outs js (m - js), CM s.M outs js (m - js), s.κ + (m - js), s.n⟩ K)) :
    ∀ (fuel : Nat), fuel ≤ F → ∀ (S : Nat → Bool) (listed : Array Bool) (a : Act) (w : World) (h : Hp) (θ : Th), (fuel < F ∨ ∃ i, js ≤ i ∧ i < m ∧ S i = false) → Lst ops listed S → (∀ i, i < js → S i = true) → (∀ i, m ≤ i → i < ops.size → S i = false) → unl S ops.size ≤ fuel →
      Inv E n0 w0 h0 h θ (MS outs js m s.M S) (FrS S js m s.κ) w → RepT h θ (TS ops outs js m s.T S) a.tmps → a.tmps.size = s.n → Later h1 θ1 s1 a1 h θ s a →
      wpAnyIn (FW r) 0 E.P .any ops Q fuel listed a w := by
  have hd' : backO 0 ops.toList = true ∧ chkR ops (beforeL [] ops.toList) 0 ops.toList = true := by simpa [drawOk] using hd
  obtain ⟨hb, hck⟩ := hd'
  have hsingle : Single ops := fun i i' t e1 e2 => by
    have hi := dstOf_lt e1
    have hi' := dstOf_lt e2
    by_cases hne : i' = i
    · exact hne.symm
    · obtain ⟨o, ho⟩ : ∃ o, ops[i]? = some o := ⟨_, Array.getElem?_eq_getElem hi⟩
      obtain ⟨o', ho'⟩ : ∃ o, ops[i']? = some o := ⟨_, Array.getElem?_eq_getElem hi'⟩
      have h1 := chkR_inv hck (l := ops.toList) (k := 0) (j := i) (o := o) (by simpa using ho)
      have ht' : o'.dst = some t := by simpa [dstOf, ho'] using e2
      have ht : o.dst = some t := by simpa [dstOf, ho] using e1
      have := (chkO_inv h1 (i := i') (o := o') (t := t) (by simpa using ho') ht' (by omega)).2
      exact absurd ht this
  intro fuel
  induction fuel with
  | zero =>
    intro hF S listed a w h θ hlt hL hlow hhigh hun I hT hsz hlat
    have none : ∀ i, i < ops.size → S i = true := fun i hi => by
      cases hq : S i with
      | true => rfl
      | false => have := unl_pos (n := ops.size) hq hi; omega
    have hms : m = ops.size := by
      rcases Nat.lt_or_ge m ops.size with h | h
      · have := hhigh m (Nat.le_refl _) h
        rw [none m h] at this; cases this
      · omega
    have hF0 : 0 < F := by
      rcases hlt with h | ⟨i, h1, h2, h3⟩
      · exact h
      · rw [none i (by omega)] at h3; cases h3
    refine out 0 hF0 m listed ⟨CT ops s.T outs js (m - js), CM s.M outs js (m - js), s.κ + (m - js), s.n⟩ a w h θ hm2 (hL.same hb fun i hi => by rw [none i hi]; simp; omega) (by omega) ?_ ?_ ws ?_
    · have hS : ∀ i, js ≤ i → i < m → (fun i => decide (i < js + (m - js))) i = S i := fun i h1 h2 => by
        rw [none i (by omega)]; simp; omega
      refine ⟨?_, ?_, hsz⟩
      · rw [CM_eq (m := m) (m - js) (by omega), MS_congr hS]
        exact I.less (fun _ _ e => e) fun k hk => ⟨by simp only at hk; omega, fun hh => by simp only at hk; omega⟩
      · rw [CT_eq (m := m) hsingle (m - js) (by omega), TS_congr hS]
        exact hT
    · exact ⟨hlat.hh, hlat.ht, by have := hlat.κ; simp only; omega, hlat.n, hlat.d⟩
    · subst hms
      have : ops.toList.drop ops.size = [] := List.drop_of_length_le (by simp)
      rw [this] at hfin ⊢
      exact hfin
  | succ fuel ih =>
    intro hF S listed a w h θ hlt hL hlow hhigh hun I hT hsz hlat
    by_cases hex : ∃ i, js ≤ i ∧ i < m ∧ S i = false
    · obtain ⟨i0, hi0, hi0m, hi0S⟩ := hex
      refine ⟨fun hnil => absurd hnil (hL.first hb i0 (by omega) hi0S), fun i hr => ?_⟩
      obtain ⟨hi, hSi, hbef⟩ := hL.ready hb hr
      have hjs : js ≤ i := by
        rcases Nat.lt_or_ge i js with h | h
        · rw [hlow i h] at hSi; cases hSi
        · exact h
      have him : i < m := by
        rcases Nat.lt_or_ge i m with h | h
        · exact h
        · exfalso
          have hbar : barrier (beforeL [] ops.toList) m = true := hm3.resolve_left (by omega)
          obtain ⟨b1, b2⟩ := barrier_inv hbar
          rcases Nat.lt_or_ge m i with h' | h'
          · have := hbef m (b2 i h' hi)
            rw [hhigh m (Nat.le_refl _) (by omega)] at this; cases this
          · have : i = m := by omega
            subst this
            have := hbef i0 (b1 i0 hi0m)
            rw [hi0S] at this; cases this
      obtain ⟨o, ho, he, hdst, _⟩ := hev (i - js) (by omega)
      have hji : js + (i - js) = i := by omega
      rw [hji] at ho he
      have keyAt : ∀ j, js ≤ j → j < m → KeyOk (beforeL [] ops.toList) ws js (s.κ + (j - js)) s.κ j (outs j).2 := fun j q1 q2 => by
        obtain ⟨_, _, _, _, hk⟩ := hev (j - js) (by omega)
        rwa [show js + (j - js) = j by omega] at hk
      have ordS : ∀ j, j < ops.size → ordd (beforeL [] ops.toList) j i = true → S j = decide (j < i) := fun j hj ho => by
        simp only [ordd, Bool.or_eq_true] at ho
        rcases ho with h | h
        · rw [hbef j h, decide_eq_true (bef_lt hb _ _ h)]
        · have := bef_lt hb _ _ h
          rw [decide_eq_false (by omega)]
          cases hq : S j with
          | false => rfl
          | true => rw [hL.closed j i hj hq h] at hSi; cases hSi
      -- the slots that are read
      rw [CT_eq (m := m) hsingle (i - js) (by omega), CM_eq (m := m) (i - js) (by omega), hji] at he
      have hdo : dstOf ops i = o.dst := by simp [dstOf, ho]
      have hchk := chkR_inv hck (l := ops.toList) (k := 0) (j := i) (o := o) (by simpa using ho)
      rw [Nat.zero_add] at hchk
      have hreads : ∀ t, t ∈ readsO ops o → TS ops outs js m s.T (fun i' => decide (i' < i)) t = TS ops outs js m s.T S t := fun t ht => by
        unfold TS
        cases hw : wr ops t with
        | none => rfl
        | some i' =>
          simp only
          have hw' := wr_some hw
          have hi' := dstOf_lt hw'
          obtain ⟨o', ho'⟩ : ∃ o, ops[i']? = some o := ⟨_, Array.getElem?_eq_getElem hi'⟩
          have ht' : o'.dst = some t := by simpa [dstOf, ho'] using hw'
          have key : decide (i' < i) = S i' := by
            by_cases hne : i' = i
            · subst hne; rw [hSi]; simp
            · obtain ⟨c1, c2⟩ := (chkO_inv hchk (i := i') (o := o') (t := t) (by simpa using ho') ht' (by omega)).1 ht
              rw [Nat.zero_add] at c1 c2
              by_cases hlt : i' < i
              · rw [hbef i' (c1 hlt)]; simp [hlt]
              · have hgt : i < i' := by omega
                have hs' : S i' = false := by
                  cases hq : S i' with
                  | false => rfl
                  | true => rw [hL.closed i' i hi' hq (c2 hgt)] at hSi; cases hSi
                rw [hs']; simp [hlt]
          rw [key]
      rw [opEval_congr hreads] at he
      have hmem : (visM (beforeL [] ops.toList) ws i js s.κ (MS outs js m s.M fun i' => decide (i' < i))).le (MS outs js m s.M S) := fun k bk e => by
        have e' := visM_le _ _ _ _ _ _ _ _ e
        rw [← e']
        refine MSr_at (m - js) fun j q1 q2 b hbk => ?_
        have hk := keyAt j q1 (by omega) k b hbk
        obtain ⟨_, hh, hbit⟩ := visM_see e
        rcases hk with rfl | ⟨hw, _, _⟩
        · have hbit := hbit (by omega)
          rw [show js + (s.κ + (j - js) - s.κ) = j by omega] at hbit
          rw [hbef j hbit, decide_eq_true (bef_lt hb _ _ hbit)]
        · rcases hid_false hh hw with rfl | ho
          · rw [hSi]; simp
          · exact ordS j (by omega) ho
      have he := opEval_mono hmem he
      let S' : Nat → Bool := fun j => decide (j = i) || S j
      have hL' : Lst ops (listed.setIfInBounds i true) S' := hL.add hb hr fun _ => rfl
      have hun' : unl S' ops.size ≤ fuel := by
        have := unl_add (S := S) (S' := S') (i := i) (n := ops.size) (fun _ => rfl) hSi hi; omega
      have next : ∀ (u : Value) (w' : World) (h' : Hp) (θ' : Th), h.le h' → θ.le θ' → Inv E n0 w0 h0 h' θ' ((MS outs js m s.M S).newK (outs i).2) (fun k => FrS S js m s.κ k ∧ k ≠ s.κ + (i - js)) w' → Rep h' θ' (outs i).1 u →
          wpAnyIn (FW r) 0 E.P .any ops Q fuel (listed.setIfInBounds i true) (a.put o.dst u) w' := fun u w' h' θ' hh ht I' ru => by
        refine ih (by omega) S' _ _ w' h' θ' (.inl (by omega)) hL' (fun j hj => by simp only [S', hlow j hj, Bool.or_true]) (fun j hj hj' => by simp only [S', hhigh j hj hj', show ¬ j = i by omega, decide_false, Bool.false_or]) hun' ?_ ?_ ?_ ?_
        · rw [MS_add hjs him hSi (fun _ => rfl) fun j q1 q2 q3 k b k' b' e1 e2 hkk => ?_]
          rotate_left
          · subst hkk
            have h1 := keyAt i hjs him k b e1
            have h2 := keyAt j (by omega) q2 k b' e2
            rcases h1 with h1 | ⟨h1w, h1h, h1b⟩
            · rcases h2 with h2 | ⟨_, _, h2b⟩
              · omega
              · have h2b := h2b (by omega)
                rw [show js + (k - s.κ) = i by omega] at h2b
                rw [hL.closed j i (by omega) q3 h2b] at hSi; cases hSi
            · rcases h2 with h2 | ⟨h2w, _, _⟩
              · have h1b := h1b (by omega)
                rw [show js + (k - s.κ) = j by omega] at h1b
                have := bef_lt hb _ _ h1b
                omega
              · rcases hid_false h1h h2w with h | ho
                · omega
                · have := ordS j (by omega) ho
                  rw [q3, decide_eq_false (by omega)] at this; cases this
          refine I'.less (fun _ _ e => e) fun k hk => ?_
          obtain ⟨hk1, hk2⟩ := hk
          refine ⟨⟨hk1, fun ⟨q1, q2⟩ => hk2 ⟨q1, by simp only [S', q2, Bool.or_true]⟩⟩, fun hk3 => hk2 ?_⟩
          subst hk3
          refine ⟨by omega, ?_⟩
          have : js + (s.κ + (i - js) - s.κ) = i := by omega
          simp only [S', this, decide_true, Bool.true_or]
        · rw [TS_add hsingle hjs him fun _ => rfl, hdo]
          exact put_rep (hT.mono hh ht) ru (by rw [hsz]; exact hdst)
        · rw [put_size]; exact hsz
        · exact ⟨hlat.hh.trans hh, hlat.ht.trans ht, hlat.κ, hlat.n, by rw [put_defers]; exact hlat.d⟩
      have hfr : FrS S js m s.κ (s.κ + (i - js)) := ⟨by omega, fun ⟨_, q⟩ => by
        rw [show js + (s.κ + (i - js) - s.κ) = i by omega, hSi] at q; cases q⟩
      unfold wpOpIn
      rw [ho]
      simp only
      rcases opEval_ok ok I hfr hT he with ⟨hw, hwp⟩ | ⟨hw, hv, hbk⟩
      · rw [if_pos hw]
        exact hwp _ _ next
      · rw [if_neg (by rw [hw]; simp)]
        refine ⟨fun _ _ => trivial, next undef w h θ (.refl _) (.refl _) ?_ (by rw [hv]; exact .undef)⟩
        rw [hbk]
        exact I.less (fun _ _ e => e) fun k hk => hk.1
    · have all : ∀ i, js ≤ i → i < m → S i = true := fun i h1 h2 => by
        cases hq : S i with
        | true => rfl
        | false => exact absurd ⟨i, h1, h2, hq⟩ hex
      have hS : ∀ i, i < ops.size → (fun i => decide (i < m)) i = S i := fun i hi => by
        by_cases h1 : i < js
        · rw [hlow i h1]; simp; omega
        · by_cases h2 : i < m
          · rw [all i (by omega) h2]; simp [h2]
          · rw [hhigh i (by omega) hi]; simp [h2]
      refine out (fuel + 1) (hlt.resolve_right hex) m listed ⟨CT ops s.T outs js (m - js), CM s.M outs js (m - js), s.κ + (m - js), s.n⟩ a w h θ hm2 (hL.same hb hS) ?_ ?_ ?_ ws ?_
      · rw [← unl_ge, unl_same (S := S) hS]; exact hun
      · have hS' : ∀ i, js ≤ i → i < m → (fun i => decide (i < js + (m - js))) i = S i := fun i h1 h2 => by
          rw [all i h1 h2]; simp; omega
        refine ⟨?_, ?_, hsz⟩
        · rw [CM_eq (m := m) (m - js) (by omega), MS_congr hS']
          exact I.less (fun _ _ e => e) fun k hk => ⟨by simp only at hk; omega, fun hh => by simp only at hk; omega⟩
        · rw [CT_eq (m := m) hsingle (m - js) (by omega), TS_congr hS']
          exact hT
      · exact ⟨hlat.hh, hlat.ht, by have := hlat.κ; simp only; omega, hlat.n, hlat.d⟩
      · cases hdr : ops.toList.drop m with
        | nil => rw [hdr] at hfin; exact hfin
        | cons o r =>
          rw [hdr] at hfin
          have hbar : barrier (beforeL [] ops.toList) m = true := hm3.resolve_left fun hms => by
            rw [List.drop_of_length_le (by simp [hms])] at hdr; cases hdr
          simp only [evDraw, hbar, cond_true] at hfin ⊢
          exact hfin

theorem outer (ok : EnvOk E) (C : Closed H) (hc : HooksOk E n0 w0 h0 H hk) (hd : drawOk ops (beforeL [] ops.toList) = true)
    (hn : ∀ s' a' w' h' θ', SRel E n0 w0 h0 h' θ' s' a' w' → Later h1 θ1 s1 a1 h' θ' s' a' → H (K s') → Q .normal a' w')
    (hp : ∀ v u M' κ' s' a' w' h' θ', Inv E n0 w0 h0 h' θ' M' (fun k => κ' ≤ k) w' → Rep h' θ' v u → Later h1 θ1 s1 a1 h' θ' s' a' → s'.κ ≤ κ' → H (Kp v M' κ') → Q (.panic [{ v := u, recovered := false }]) a' w') : ∀ fuel, Outer E n0 w0 h0 H r hk Kp ops K Q h1 θ1 s1 a1 fuel := by
  have hb : backO 0 ops.toList = true := by
    have : backO 0 ops.toList = true ∧ chkR ops (beforeL [] ops.toList) 0 ops.toList = true := by simpa [drawOk] using hd
    exact this.1
  intro fuel
  induction fuel using Nat.strongRecOn with
  | _ fuel ih =>
    intro js listed s a w h θ hjs hL hf R hlat ws e
    rcases Nat.lt_or_ge js ops.size with hlt | hge
    · have hr0 := hL.first hb js hlt (by simp)
      cases hbar : barrier (beforeL [] ops.toList) js with
      | true =>
        obtain ⟨f', rfl⟩ : ∃ f', fuel = f' + 1 := ⟨fuel - 1, by omega⟩
        refine ⟨fun hnil => absurd hnil hr0, fun i hr => ?_⟩
        obtain ⟨hi, hSi, hbef⟩ := hL.ready hb hr
        have : i = js := by
          have h1 : ¬ i < js := by simpa using hSi
          rcases Nat.lt_or_ge js i with h2 | h2
          · have := hbef js ((barrier_inv hbar).2 i h2 hi)
            simp at this
          · omega
        subst this
        have hoj : ops[i]? = some ops[i] := Array.getElem?_eq_getElem hi
        have hdr : ops.toList.drop i = ops[i] :: ops.toList.drop (i + 1) := by
          rw [List.drop_eq_getElem_cons (by simpa using hi)]; simp
        rw [hdr] at e
        simp only [evDraw, hbar, cond_true] at e
        unfold wpOpIn
        rw [hoj]
        simp only
        rcases evOp_ok (r := r) ok C hc (Q := Q) R e (next := wpAnyIn (FW r) 0 E.P .any ops Q f' (listed.setIfInBounds i true)) (fun s' a' w' h' θ' R' hh ht hκ hsn hd e' =>
            have ⟨h'', hle'', I''⟩ := R'.inv.freezeM (frzL ops.toList (beforeL [] ops.toList) s'.T s'.M (i + 1) (ops.toList.drop (i + 1)))
            ih f' (by omega) (i + 1) _ (s'.pre ops.toList (beforeL [] ops.toList) (i + 1) (ops.toList.drop (i + 1))) a' w' h'' θ' hi ((hL.add (S' := fun j => decide (j = i) || decide (j < i)) hb hr fun _ => rfl).same hb fun j hj => by
              have : (j < i + 1) ↔ (j = i ∨ j < i) := by omega
              simp [this]) (by omega) ⟨I'', R'.tmps.mono hle'' (.refl _), R'.size⟩ (hlat.trans ⟨hh.trans hle'', ht, hκ, hsn, hd⟩) _ e')
            (fun v u M' κ' w' h' θ' I' ru hh ht hκ e' => hp v u M' κ' s a w' h' θ' I' ru (hlat.trans ⟨hh, ht, Nat.le_refl _, rfl, rfl⟩) hκ e') with ⟨hw, hwp⟩ | ⟨hw, hnx⟩
        · rw [if_pos hw]; exact hwp
        · rw [if_neg (by rw [hw]; simp)]; exact ⟨fun _ _ => trivial, hnx⟩
      | false =>
        obtain ⟨m, outs, g1, g2, g3, g4, g5, g6⟩ := seg ok C (ops.toList.drop js) js rfl hjs R e
        have hjm : js < m := by
          rcases Nat.lt_or_ge js m with h | h
          · exact h
          · have : m = js := by omega
            subst this
            rcases g3 with h | h
            · omega
            · rw [hbar] at h; cases h
        refine inner ok C hd (F := fuel) (fun f hf => ih f hf) g1 g2 g3 g5 g6 fuel (Nat.le_refl _) (fun i => decide (i < js)) listed a w h θ (.inr ⟨js, Nat.le_refl _, hjm, by simp⟩) hL (fun i hi => by simpa using hi) (fun i hi _ => by simp; omega) (by rw [unl_ge]; exact hf) ?_ ?_ R.size hlat
        · have := CM_eq (M0 := s.M) (outs := outs) (js := js) (m := m) 0 (by omega)
          simp only [CM, Nat.add_zero] at this
          rw [← this]
          exact R.inv.less (fun _ _ e => e) fun k hk => hk.1
        · have : TS ops outs js m s.T (fun i => decide (i < js)) = s.T := by
            funext t
            unfold TS
            cases wr ops t with
            | none => rfl
            | some i =>
              simp only
              by_cases h1 : js ≤ i
              · simp [show ¬ i < js by omega]
              · simp [h1]
          rw [this]; exact R.tmps
    · have hjs' : js = ops.size := by omega
      subst hjs'
      rw [List.drop_of_length_le (by simp)] at e
      have hQ : Q .normal a w := hn s a w h θ R hlat e
      have hnil : Region.ready .any ops listed = [] := by
        cases hrd : Region.ready .any ops listed with
        | nil => rfl
        | cons i r =>
          obtain ⟨hi, hSi, _⟩ := hL.ready hb (i := i) (by rw [hrd]; simp)
          simp [hi] at hSi
      cases fuel with
      | zero => exact ⟨hnil, hQ⟩
      | succ f => exact ⟨fun _ => hQ, fun i hi => by rw [hnil] at hi; cases hi⟩
end any
end Go.Proofs.YtchljgmcempedaaGreatDoor
