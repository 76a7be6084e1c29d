/- Loops by what they keep: sound (nothing is claimed here). -/
import Derived.Test.YtchljgmcempedaaGreatDoorSh24
set_option linter.unusedVariables false
set_option linter.unusedSimpArgs false
namespace Go.Proofs.YtchljgmcempedaaGreatDoor
open Go Go.RowKit

section canon
variable {E : Env} {n0 : Nat} {w0 : World} {h0 h : Hp} {θ : Th} {w : World}
theorem keysOf_len {T : Tmps} : ∀ {ts ks : List Nat}, keysOf T ts = some ks → ks.length = ts.length
  | [], ks, e => by cases e; rfl
  | t :: ts, ks, e => by
    simp only [keysOf] at e
    obtain ⟨k, _, q2⟩ := Option.bind_eq_some_iff.1 e
    obtain ⟨ks', q3, rfl⟩ := Option.map_eq_some_iff.1 q2
    simp [keysOf_len q3]
theorem getT_rep {ks : List Nat} {T : Tmps} {a : Array Value} (hT : RepT h θ T a) : ∀ {ts : List Nat} {vs : List SV}, valsOf ks T ts = some vs → RepT h (thK ks θ) (getT ts vs) a
  | [], vs, e => by cases e; exact fun t => .junk _
  | t :: ts, vs, e => by
    simp only [valsOf] at e
    obtain ⟨v, q1, q2⟩ := Option.bind_eq_some_iff.1 e
    obtain ⟨vs', q3, rfl⟩ := Option.map_eq_some_iff.1 q2
    intro j
    simp only [getT]
    cases hb : Nat.beq j t with
    | true =>
      rw [Nat.eq_of_beq_eq_true hb]
      exact renA_rep q1 (hT t)
    | false => exact getT_rep hT q3 j
theorem getM_some {ks : List Nat} {M : Mem} : ∀ {r : List Nat} {bs : List Blk} {j : Nat} {b' : Blk}, blksOf ks M r = some bs → getM bs j = some b' → ∃ k b, r[j]? = some k ∧ M k = some b ∧ renB ks b = some b'
  | [], bs, j, b', e, g => by cases e; cases g
  | k :: r, bs, j, b', e, g => by
    simp only [blksOf] at e
    obtain ⟨b1, q1, q2⟩ := Option.bind_eq_some_iff.1 e
    obtain ⟨bs', q3, rfl⟩ := Option.map_eq_some_iff.1 q2
    cases j with
    | zero =>
      cases g
      obtain ⟨b, q4, q5⟩ := Option.bind_eq_some_iff.1 q1
      exact ⟨k, b, rfl, q4, q5⟩
    | succ j =>
      obtain ⟨k', b, q4, q5, q6⟩ := getM_some q3 g
      exact ⟨k', b, by simpa using q4, q5, q6⟩
theorem renB_ok {ks : List Nat} {b b' : Blk} {hd : Hd} (e : renB ks b = some b') (r : BlkOk h θ w n0 b hd) : BlkOk h (thK ks θ) w n0 b' hd := by
  cases b with
  | cells cs ty =>
    simp only [renB] at e
    obtain ⟨cs', q1, rfl⟩ := Option.map_eq_some_iff.1 e
    obtain ⟨id, vs, ty', q2, q3, q4, q5, q6⟩ := r
    exact ⟨id, vs, ty', q2, q3, q4, q5, renC_rep q1 q6⟩
  | row τ l ty =>
    cases e
    rcases r with r | ⟨id, c, vs, rest, ty', q2, q3, q4, q5, q6, q7⟩
    · exact .inl r
    · have kfR : ∀ l : List τ.T, kfC (encR τ l) = true := by
        intro l
        induction l with
        | nil => rfl
        | cons x l ih =>
          have app : ∀ a b : List SV, kfC a = true → kfC b = true → kfC (a ++ b) = true := by
            intro a
            induction a with
            | nil => intro b _ h; exact h
            | cons s a ih => intro b h1 h2; simp only [kfC, Bool.and_eq_true, List.cons_append] at h1 ⊢; exact ⟨h1.1, ih b h1.2 h2⟩
          exact app _ _ (kfC_enc τ x) ih
      exact .inr ⟨id, c, vs, rest, ty', q2, q3, q4, q5, q6.kf (kfR l), q7⟩
  | frow τ l =>
    cases e
    exact Rep.kf (s := .rd τ l) r rfl
  | lp T ps as bd st pend =>
    cases e
    obtain ⟨id, rec, q1, q2, q3, q4, q5, q6, q7, q8, q9, q10⟩ := r
    exact ⟨id, rec, q1, q2, q3, q4, q5, q6, q7, q8, q9, junkR_rep q10⟩
  | dfr => cases e; exact r
  | _ => cases e
theorem fixN_n : ∀ {l : List (Nat × (ETy × TypeId))} {s : St}, (fixN l s).n = s.n
  | [], s => rfl
  | p :: r, s => by
    unfold fixN
    split
    · exact fixN_n (l := r)
    · exact fixN_n (l := r)
    · exact fixN_n (l := r)
theorem fixN_ok : ∀ {l : List (Nat × (ETy × TypeId))} {s : St} {a : Act} {θ : Th}, SRel E n0 w0 h0 h θ s a w → ∃ θ', SRel E n0 w0 h0 h θ' (fixN l s) a w
  | [], s, a, θ, R => ⟨θ, R⟩
  | p :: r, s, a, θ, R => by
    unfold fixN
    split
    · rename_i hq
      have I := R.inv.newNil (κ := s.κ) (Nat.le_refl _) (.row p.2.1 [] p.2.2) (.slice none 0 0) (.inl ⟨rfl, none, rfl⟩)
      have tle := Th.le_set (hd := ((Value.slice none 0 0, none) : Hd)) (R.inv.fresh s.κ (Nat.le_refl _))
      refine fixN_ok (l := r) (s := ⟨s.T.put (some p.1) (.own s.κ), s.M.set s.κ (.row p.2.1 [] p.2.2), s.κ + 1, s.n⟩) ⟨I.less (fun _ _ e => e) (fun k hk => ⟨by simp only at hk; omega, by simp only at hk; omega⟩), fun t => ?_, R.size⟩
      have hT := (R.tmps.mono (.refl _) tle) t
      simp only [Tmps.put]
      by_cases ht : t = p.1
      · subst ht
        rw [Nat.beq_refl]
        rw [hq] at hT
        simp only [cond_true]
        generalize a.tmps.getD p.1 undef = u at hT
        cases hT
        exact .own _ _ _ _ _ (if_pos rfl)
      · rw [beq_ne ht]; exact hT
    · rename_i q hq
      refine fixN_ok (l := r) (s := ⟨s.T.put (some p.1) (.v (.bool q)), s.M, s.κ, s.n⟩) ⟨R.inv, fun t => ?_, R.size⟩
      have hT := R.tmps t
      simp only [Tmps.put]
      by_cases ht : t = p.1
      · subst ht
        rw [Nat.beq_refl]
        rw [hq] at hT
        simp only [cond_true]
        generalize a.tmps.getD p.1 undef = u at hT
        cases hT
        exact .v _ trivial
      · rw [beq_ne ht]; exact hT
    · exact fixN_ok (l := r) R
theorem renB_live {ks : List Nat} {b b' : Blk} (e : renB ks b = some b') (l : b'.live) : b.live := fun τ x hb => by
  subst hb
  cases e
  exact l τ x rfl
theorem canon_ok {L : LoopSpec} {s : St} {a : Act} {vs : List SV} {bs : List Blk} (R : SRel E n0 w0 h0 h θ s a w) (e : canon L s = some (vs, bs)) : ∃ θ', SRel E n0 w0 h0 h θ' (absS L vs bs s.n) a w := by
  unfold canon at e
  obtain ⟨ks, q1, q2⟩ := Option.bind_eq_some_iff.1 e
  cases hn : nodupK ks with
  | false => rw [hn] at q2; cases q2
  | true =>
    rw [hn] at q2; simp only [cond_true] at q2
    obtain ⟨vs', q3, q4⟩ := Option.bind_eq_some_iff.1 q2
    obtain ⟨bs', q5, q6⟩ := Option.map_eq_some_iff.1 q4
    cases q6
    have hlen := keysOf_len q1
    refine ⟨thK ks θ, ⟨R.inv.agree, fun k b hb => ?_, fun k k' b b' id v v' hb hb' l l' t t' => ?_, fun k hk => ?_, R.inv.below, R.inv.n0le, R.inv.hle, R.inv.hold, R.inv.glob⟩, getT_rep R.tmps q3, R.size⟩
    · obtain ⟨k0, b0, c1, c2, c3⟩ := getM_some q5 hb
      obtain ⟨hd, d1, d2⟩ := R.inv.blk k0 b0 c2
      exact ⟨hd, by simp only [thK, c1]; exact d1, renB_ok c3 d2⟩
    · obtain ⟨k0, b0, c1, c2, c3⟩ := getM_some q5 hb
      obtain ⟨k1, b1, d1, d2, d3⟩ := getM_some q5 hb'
      simp only [thK, c1] at t
      simp only [thK, d1] at t'
      have := R.inv.inj k0 k1 b0 b1 id v v' c2 d2 (renB_live c3 l) (renB_live d3 l') t t'
      subst this
      exact nodupK_inj hn c1 d1
    · have : ks[k]? = none := List.getElem?_eq_none (by simp only [absS] at hk; omega)
      simp only [thK, this]
end canon
end Go.Proofs.YtchljgmcempedaaGreatDoor
