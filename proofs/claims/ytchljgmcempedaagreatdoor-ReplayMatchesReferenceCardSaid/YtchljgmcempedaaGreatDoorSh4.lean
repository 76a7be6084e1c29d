/- Each operation of the machine does what the evaluator says (nothing is claimed here). -/
import Derived.Test.YtchljgmcempedaaGreatDoorSh3
import Derived.WalkKit
set_option linter.unusedVariables false
set_option linter.unusedSimpArgs false
namespace Go.Proofs.YtchljgmcempedaaGreatDoor
open Go Go.RowKit

section frz
variable {E : Env} {n0 : Nat} {w0 : World} {h0 h : Hp} {θ : Th} {M : Mem} {Fr : Nat → Prop} {w : World}

theorem Inv.freeze1 (I : Inv E n0 w0 h0 h θ M Fr w) (k : Nat) : ∃ h', h.le h' ∧ Inv E n0 w0 h0 h' θ (freeze1 M k) Fr w := by
  cases hM : M k with
  | none => rw [show Go.Proofs.YtchljgmcempedaaGreatDoor.freeze1 M k = M by unfold Go.Proofs.YtchljgmcempedaaGreatDoor.freeze1; rw [hM]]; exact ⟨h, .refl _, I⟩
  | some b =>
    cases b with
    | row τ l ty =>
      rw [show Go.Proofs.YtchljgmcempedaaGreatDoor.freeze1 M k = M.set k (.frow τ l) by unfold Go.Proofs.YtchljgmcempedaaGreatDoor.freeze1; rw [hM]]
      obtain ⟨hd, et, r⟩ := I.blk k _ hM
      rcases r with ⟨rfl, a, rfl⟩ | ⟨id, c, vs, rest, ty', rfl, h1, h2, h3, h4, h5, h6⟩
      · refine ⟨h, .refl _, I.agree, fun j b e => ?_, fun j j' b b' id u u' hj hj' l l' e e' => ?_, I.fresh, I.below, I.n0le, I.hle, I.hold, I.glob⟩
        · by_cases hj : j = k
          · subst hj; rw [Mem.set_same] at e; cases e; exact ⟨_, et, .rdnil τ a 0⟩
          · rw [Mem.set_ne _ _ hj] at e; exact I.blk j b e
        · have key : ∀ {j : Nat} {c : Blk}, M.set k (.frow τ []) j = some c → c.live → M j = some c := fun {j c} hc lc => by
            by_cases hj : j = k
            · subst hj; rw [Mem.set_same] at hc; cases hc; exact absurd rfl (lc _ _)
            · rwa [Mem.set_ne _ _ hj] at hc
          exact I.inj j j' b b' id u u' (key hj l) (key hj' l') l l' e e'
      · have hle : h.le (fun b => if b = id then w.heap[id]? else h b) := fun b o e => by
          by_cases hb : b = id
          · subst hb; rw [h2] at e; cases e
          · simp only [hb, if_false]; exact e
        refine ⟨_, hle, fun b o e => ?_, fun j b e => ?_, fun j j' b b' i u u' hj hj' lv lv' e e' => ?_, I.fresh, I.below, I.n0le, I.hle.trans hle, fun b hb => ?_, I.glob⟩
        · by_cases hb : b = id
          · subst hb; simpa using e
          · simp only [hb, if_false] at e; exact I.agree b o e
        · by_cases hj : j = k
          · subst hj; rw [Mem.set_same] at e; cases e
            refine ⟨_, et, ?_⟩
            have h4' := h4.mono hle (Th.le.refl θ)
            refine Rep.of_row h4' h6.1 h6.2 fun i v hi => ?_
            simp only [Hp.cell, if_true, h3, Nat.zero_add]
            simp only [List.getElem?_toArray]
            rw [List.getElem?_append_left (List.getElem?_eq_some_iff.1 hi).1]
            exact hi
          · rw [Mem.set_ne _ _ hj] at e
            obtain ⟨hd, e1, r⟩ := I.blk j b e
            refine ⟨hd, e1, r.later hle (Th.le.refl _) fun u i hu nf => ⟨rfl, ?_⟩⟩
            subst hu
            have : i ≠ id := fun hi => by subst hi; exact hj (I.inj j k b _ i u _ e hM nf (fun _ _ => by simp) e1 et)
            simp only [this, if_false]
        · have key : ∀ {j : Nat} {c : Blk}, M.set k (.frow τ l) j = some c → c.live → M j = some c := fun {j c} hc lc => by
            by_cases hj : j = k
            · subst hj; rw [Mem.set_same] at hc; cases hc; exact absurd rfl (lc _ _)
            · rwa [Mem.set_ne _ _ hj] at hc
          exact I.inj j j' b b' i u u' (key hj lv) (key hj' lv') lv lv' e e'
        · have : b ≠ id := by omega
          simp only [this, if_false]; exact I.hold b hb
    | _ => rw [show Go.Proofs.YtchljgmcempedaaGreatDoor.freeze1 M k = M by unfold Go.Proofs.YtchljgmcempedaaGreatDoor.freeze1; rw [hM]]; exact ⟨h, .refl _, I⟩
theorem Inv.freezeM : ∀ (ks : List Nat) {h : Hp} {M : Mem}, Inv E n0 w0 h0 h θ M Fr w → ∃ h', h.le h' ∧ Inv E n0 w0 h0 h' θ (freezeM M ks) Fr w
  | [], h, M, I => ⟨h, .refl _, I⟩
  | k :: ks, h, M, I => by
    obtain ⟨h1, l1, I1⟩ := I.freeze1 k
    obtain ⟨h2, l2, I2⟩ := Inv.freezeM ks I1
    exact ⟨h2, l1.trans l2, I2⟩
/-- what freezing leaves of a block -/
theorem freeze1_at (M : Mem) (k j : Nat) : freeze1 M k j = M j ∨ (j = k ∧ ∃ τ l ty, M k = some (.row τ l ty) ∧ freeze1 M k j = some (.frow τ l)) := by
  unfold Go.Proofs.YtchljgmcempedaaGreatDoor.freeze1
  cases hM : M k with
  | none => exact .inl rfl
  | some b =>
    cases b with
    | row τ l ty =>
      by_cases hj : j = k
      · subst hj; exact .inr ⟨rfl, τ, l, ty, rfl, Mem.set_same _ _ _⟩
      · exact .inl (Mem.set_ne _ _ hj)
    | _ => exact .inl rfl
def frz : Option Blk → Option Blk
  | some (.row τ l _) => some (.frow τ l)
  | b => b
theorem frz_frz (b : Option Blk) : frz (frz b) = frz b := by
  cases b with
  | none => rfl
  | some b => cases b <;> rfl
theorem freeze1_eq (M : Mem) (k j : Nat) : freeze1 M k j = if j = k then frz (M j) else M j := by
  unfold Go.Proofs.YtchljgmcempedaaGreatDoor.freeze1
  by_cases hj : j = k
  · subst hj
    simp only [if_true]
    cases hM : M j with
    | none => exact hM
    | some b => cases b <;> first | exact Mem.set_same _ _ _ | exact hM
  · simp only [hj, if_false]
    cases hM : M k with
    | none => rfl
    | some b => cases b <;> first | exact Mem.set_ne _ _ hj | rfl
theorem freezeM_eq : ∀ (ks : List Nat) (M : Mem) (j : Nat), freezeM M ks j = if j ∈ ks then frz (M j) else M j
  | [], M, j => by simp [freezeM]
  | k :: ks, M, j => by
    rw [freezeM, freezeM_eq ks, freeze1_eq]
    by_cases h1 : j = k <;> by_cases h2 : j ∈ ks <;> simp [h1, h2, frz_frz]

/-- A callee has run: it has made memory, and turned nothing. -/
theorem Inv.call (I : Inv E n0 w0 h0 h θ M Fr w) {h' : Hp} {w' : World} (hb : Below w.heap.size w w') (hle : h.le h') (hag : ∀ b o, h' b = some o → w'.heap[b]? = some o)
    (hsame : ∀ b, b < w.heap.size → h' b = h b) : Inv E n0 w0 h0 h' θ M Fr w' := by
  refine ⟨hag, fun j b e => ?_, I.inj, I.fresh, I.below.trans (hb.mono I.size), I.n0le, I.hle.trans hle, fun b hb' => ?_, I.glob⟩
  · obtain ⟨hd, e1, r⟩ := I.blk j b e
    refine ⟨hd, e1, r.later hle (Th.le.refl _) fun u i hu nf => ?_⟩
    subst hu
    have := (r.owned nf).2.2
    exact ⟨hb.block i this, hsame i this⟩
  · rw [hsame b (by have := I.size; omega)]; exact I.hold b hb'
end frz

/-! values without keys -/
def kf1 : SV → Bool
  | .v _ | .b _ | .undef | .junk | .arr .. | .rd .. | .rdx .. => true
  | _ => false
def kfC : List SV → Bool
  | [] => true
  | s :: r => kf1 s && kfC r
theorem kfC_enc (τ : ETy) (x : τ.T) : kfC (encE τ x) = true := by cases τ <;> rfl
mutual
theorem Rep.kf {h : Hp} {θ θ' : Th} {s : SV} {v : Value} : Rep h θ s v → kf1 s = true → Rep h θ' s v
  | .v x o, _ => .v x o
  | .b q, _ => .b q
  | .undef, _ => .undef
  | .junk x, _ => .junk x
  | .rdnil τ a c, _ => .rdnil τ a c
  | .rd τ l a c vals h1 h2 h3 h4 h5, _ => .rd τ l a c vals h1 h2 (fun j x e => RepC.kf (h3 j x e) (kfC_enc τ x)) h4 h5
  | .rdx τ l a n r, _ => .rdx τ l a n (Rep.kf r rfl)
  | .own k a n c o e, q => by simp [kf1] at q
  | .loc k off ix n id e l, q => by simp [kf1] at q
  | .gptr g off ix n l, q => by simp [kf1] at q
  | .rptr τ l i off a c r e, q => by simp [kf1] at q
  | .optr k sz i off id n c e l, q => by simp [kf1] at q
  | .agg cs vs r, q => by simp [kf1] at q
  | .tup ss vs r, q => by simp [kf1] at q
  | .fn f fs cs xs ys r1 r2, q => by simp [kf1] at q
  | .map k id e, q => by simp [kf1] at q
  | .cs k n sz id e l, q => by simp [kf1] at q
  | .pp cs off ix n id vs ty fz e r l, q => by simp [kf1] at q
  | .yld k id ts e, q => by simp [kf1] at q
  | .iter k id e, q => by simp [kf1] at q
  | .win k sz lo n c a o e l, q => by simp [kf1] at q
theorem RepC.kf {h : Hp} {θ θ' : Th} {s : List SV} {v : List Value} : RepC h θ s v → kfC s = true → RepC h θ' s v
  | .nil, _ => .nil
  | .cell s v ss vs c r rs, q => by
    simp only [kfC, Bool.and_eq_true] at q
    exact .cell s v ss vs c (Rep.kf r q.1) (RepC.kf rs q.2)
  | .arr k n l ss vs a b rs, q => by
    simp only [kfC, Bool.and_eq_true] at q
    exact .arr k n l ss vs a b (RepC.kf rs q.2)
end
/-- key-free, one level of struct, or a tuple of these -/
def kfA : SV → Bool
  | .agg cs => kfC cs
  | s => kf1 s
def kfL : List SV → Bool
  | [] => true
  | s :: r => kfA s && kfL r
theorem Rep.kfA {h : Hp} {θ θ' : Th} {s : SV} {v : Value} (r : Rep h θ s v) (q : kfA s = true) : Rep h θ' s v := by
  cases r with
  | agg cs vs r => exact .agg cs vs (r.kf q)
  | v _ o => exact .v _ o
  | b _ => exact .b _
  | undef => exact .undef
  | junk _ => exact .junk _
  | rdnil τ a c => exact .rdnil τ a c
  | rd τ l a c vals h1 h2 h3 h4 h5 => exact Rep.kf (θ := θ) (.rd τ l a c vals h1 h2 h3 h4 h5) rfl
  | rdx τ l a n r => exact .rdx τ l a n (r.kf rfl)
  | own k a n c o e => simp [Go.Proofs.YtchljgmcempedaaGreatDoor.kfA, kf1] at q
  | loc k off ix n id e l => simp [Go.Proofs.YtchljgmcempedaaGreatDoor.kfA, kf1] at q
  | gptr g off ix n l => simp [Go.Proofs.YtchljgmcempedaaGreatDoor.kfA, kf1] at q
  | rptr τ l i off a c r e => simp [Go.Proofs.YtchljgmcempedaaGreatDoor.kfA, kf1] at q
  | optr k sz i off id n c e l => simp [Go.Proofs.YtchljgmcempedaaGreatDoor.kfA, kf1] at q
  | tup ss vs r => simp [Go.Proofs.YtchljgmcempedaaGreatDoor.kfA, kf1] at q
  | fn f fs cs xs ys r1 r2 => simp [Go.Proofs.YtchljgmcempedaaGreatDoor.kfA, kf1] at q
  | map k id e => simp [Go.Proofs.YtchljgmcempedaaGreatDoor.kfA, kf1] at q
  | cs k n sz id e l => simp [Go.Proofs.YtchljgmcempedaaGreatDoor.kfA, kf1] at q
  | pp cs off ix n id vs ty fz e r l => simp [Go.Proofs.YtchljgmcempedaaGreatDoor.kfA, kf1] at q
  | yld k id e => simp [Go.Proofs.YtchljgmcempedaaGreatDoor.kfA, kf1] at q
  | iter k id e => simp [Go.Proofs.YtchljgmcempedaaGreatDoor.kfA, kf1] at q
  | win k sz lo n c a o e l => simp [Go.Proofs.YtchljgmcempedaaGreatDoor.kfA, kf1] at q
theorem RepL.kf {h : Hp} {θ θ' : Th} : ∀ {ss : List SV} {vs : List Value}, RepL h θ ss vs → kfL ss = true → RepL h θ' ss vs
  | [], vs, r, q => by cases r; exact .nil
  | s :: ss, vs, r, q => by
    cases r with
    | cons s v ss vs r rs =>
      simp only [kfL, Bool.and_eq_true] at q
      exact .cons s v ss vs (r.kfA q.1) (rs.kf q.2)

/-! lifting -/
section lift
variable {h : Hp} {θ : Th} {M M' : Mem}
/-- what the lifting leans on: the rows that are met lie in memory for good -/
def Lies (h : Hp) (θ : Th) (M : Mem) (ks : List Nat) : Prop := ∀ k, k ∈ ks → ∀ τ l, (∃ ty, M k = some (.row τ l ty)) ∨ M k = some (.frow τ l) → ∃ hd, θ k = some hd ∧ Rep h θ (.rd τ l) hd.1
theorem lift1_kf {s s' : SV} (e : lift1 M s = some s') : kf1 s' = true := by
  cases s <;> simp only [lift1] at e <;> first | cases e; rfl | cases e | skip
  rename_i k
  cases hM : M k with
  | none => rw [hM] at e; cases e
  | some b => rw [hM] at e; cases b <;> first | cases e; rfl | cases e
theorem lift1_rep {s s' : SV} {v : Value} (e : lift1 M s = some s') (r : Rep h θ s v) (L : Lies h θ M (keysA s)) : Rep h θ s' v := by
  cases r <;> simp only [lift1] at e <;> first | (cases e; done) | skip
  · cases e; exact .v _ ‹_›
  · cases e; exact .b _
  · cases e; exact .rdnil _ _ _
  · cases e; exact .rd _ _ _ _ _ ‹_› ‹_› ‹_› ‹_› ‹_›
  · cases e; exact .rdx _ _ _ _ ‹_›
  · rename_i k a n c o ek
    cases hM : M k with
    | none => rw [hM] at e; cases e
    | some b =>
      rw [hM] at e
      cases b with
      | row τ l ty =>
        cases e
        obtain ⟨hd, e1, r⟩ := L k (by simp [keysA]) τ l (.inl ⟨ty, hM⟩)
        rw [ek] at e1; cases e1; exact r
      | frow τ l =>
        cases e
        obtain ⟨hd, e1, r⟩ := L k (by simp [keysA]) τ l (.inr hM)
        rw [ek] at e1; cases e1; exact r
      | _ => cases e
theorem lift1_cell {s s' : SV} (e : lift1 M s = some s') (c : isCell s = true) : isCell s' = true := by
  cases s <;> simp only [lift1] at e <;> first | (cases e; exact c) | (cases e; rfl) | cases e | skip
  rename_i k
  cases hM : M k with
  | none => rw [hM] at e; cases e
  | some b => rw [hM] at e; cases b <;> first | cases e; rfl | cases e
theorem keys1_mem {k : Nat} : ∀ {cs : List SV} {s : SV}, s ∈ cs → k ∈ keysA s → (∀ ds, s ≠ .agg ds) → k ∈ keys1 cs
  | [], s, hs, _, _ => by cases hs
  | c :: cs, s, hs, hk, na => by
    rcases List.mem_cons.1 hs with rfl | hs
    · cases s <;> simp [keysA] at hk <;> first | (subst hk; simp [keys1]) | exact absurd rfl (na _)
    · have := keys1_mem hs hk na
      cases c <;> simp [keys1, this]
theorem lift1L_kf : ∀ {cs cs' : List SV}, lift1L M cs = some cs' → kfC cs' = true
  | [], cs', e => by cases e; rfl
  | s :: r, cs', e => by
    simp only [lift1L] at e
    cases h1 : lift1 M s with
    | none => rw [h1] at e; cases e
    | some s' =>
      rw [h1] at e; simp only [Option.bind_some] at e
      cases h2 : lift1L M r with
      | none => rw [h2] at e; cases e
      | some r' =>
        rw [h2] at e; cases e
        simp only [kfC, lift1_kf h1, lift1L_kf h2, Bool.and_self]
theorem lift1L_rep : ∀ {cs cs' : List SV} {vs : List Value}, lift1L M cs = some cs' → RepC h θ cs vs → Lies h θ M (keys1 cs) → RepC h θ cs' vs
  | [], cs', vs, e, r, L => by cases e; exact r
  | s :: ss, cs', vs, e, r, L => by
    simp only [lift1L] at e
    cases h1 : lift1 M s with
    | none => rw [h1] at e; cases e
    | some s' =>
      rw [h1] at e; simp only [Option.bind_some] at e
      cases h2 : lift1L M ss with
      | none => rw [h2] at e; cases e
      | some r' =>
        rw [h2] at e; cases e
        have L2 : Lies h θ M (keys1 ss) := fun k hk => L k (by cases s <;> simp [keys1, hk])
        rcases RepC.inv r with ⟨v, vs', rfl, c, rv, rs⟩ | ⟨k, n, l, vs', rfl, rfl, hl, hk, rs⟩
        · have L1 : Lies h θ M (keysA s) := fun k hk => L k (keys1_mem (List.mem_cons_self) hk (fun ds e => by subst e; simp [isCell] at c))
          exact .cell _ _ _ _ (lift1_cell h1 c) (lift1_rep h1 rv L1) (lift1L_rep h2 rs L2)
        · cases h1
          exact .arr _ _ _ _ _ hl hk (lift1L_rep h2 rs L2)
theorem liftA_form {s s' : SV} (e : liftA M s = some s') : lift1 M s = some s' ∨ ∃ cs, s = .agg cs := by
  cases s <;> first | exact .inl e | exact .inr ⟨_, rfl⟩ | cases e
theorem liftA_kf {s s' : SV} (e : liftA M s = some s') : kfA s' = true := by
  have one : lift1 M s = some s' → kfA s' = true := fun e => by
    have := lift1_kf e
    cases s' <;> simp_all [kfA, kf1]
  rcases liftA_form e with e | ⟨cs, rfl⟩
  · exact one e
  · simp only [liftA] at e
    cases h1 : lift1L M cs with
    | none => rw [h1] at e; cases e
    | some r => rw [h1] at e; cases e; exact lift1L_kf h1
theorem liftA_rep {s s' : SV} {v : Value} (e : liftA M s = some s') (r : Rep h θ s v) (L : Lies h θ M (keysA s)) : Rep h θ s' v := by
  rcases liftA_form e with e | ⟨cs, rfl⟩
  · exact lift1_rep e r L
  · simp only [liftA] at e
    cases h1 : lift1L M cs with
    | none => rw [h1] at e; cases e
    | some cs' =>
      rw [h1] at e; cases e
      cases r with
      | agg cs vs r => exact .agg _ _ (lift1L_rep h1 r L)
theorem liftL_kf : ∀ {ss ss' : List SV}, liftL M ss = some ss' → kfL ss' = true
  | [], ss', e => by cases e; rfl
  | s :: r, ss', e => by
    simp only [liftL] at e
    cases h1 : liftA M s with
    | none => rw [h1] at e; cases e
    | some s' =>
      rw [h1] at e; simp only [Option.bind_some] at e
      cases h2 : liftL M r with
      | none => rw [h2] at e; cases e
      | some r' =>
        rw [h2] at e; cases e
        simp only [kfL, liftA_kf h1, liftL_kf h2, Bool.and_self]
theorem liftL_rep : ∀ {ss ss' : List SV} {vs : List Value}, liftL M ss = some ss' → RepL h θ ss vs → Lies h θ M (keysL ss) → RepL h θ ss' vs
  | [], ss', vs, e, r, L => by cases e; exact r
  | s :: ss, ss', vs, e, r, L => by
    simp only [liftL] at e
    cases h1 : liftA M s with
    | none => rw [h1] at e; cases e
    | some s' =>
      rw [h1] at e; simp only [Option.bind_some] at e
      cases h2 : liftL M ss with
      | none => rw [h2] at e; cases e
      | some r' =>
        rw [h2] at e; cases e
        cases r with
        | cons s v ss vs r rs =>
          exact .cons _ _ _ _ (liftA_rep h1 r fun k hk => L k (by simp [keysL, hk])) (liftL_rep h2 rs fun k hk => L k (by simp [keysL, hk]))
end lift
theorem Inv.lies {E : Env} {n0 : Nat} {w0 : World} {h0 h : Hp} {θ : Th} {M : Mem} {Fr : Nat → Prop} {w : World} {ks : List Nat}
    (I : Inv E n0 w0 h0 h θ (Go.Proofs.YtchljgmcempedaaGreatDoor.freezeM M ks) Fr w) : Lies h θ M ks := fun k hk τ l hM => by
  have e : Go.Proofs.YtchljgmcempedaaGreatDoor.freezeM M ks k = some (.frow τ l) := by
    rw [freezeM_eq, if_pos hk]
    rcases hM with ⟨ty, hM⟩ | hM <;> rw [hM] <;> rfl
  obtain ⟨hd, e1, r⟩ := I.blk k _ e
  exact ⟨hd, e1, r⟩
end Go.Proofs.YtchljgmcempedaaGreatDoor
