/- Each operation of the machine does what the evaluator says: slices made and appended to (nothing is claimed here). -/
import Derived.Test.YtchljgmcempedaaGreatDoorSh10
set_option linter.unusedVariables false
set_option linter.unusedSimpArgs false
namespace Go.Proofs.YtchljgmcempedaaGreatDoor
open Go Go.RowKit

section ops
variable {E : Env} {n0 : Nat} {w0 : World} {h0 h : Hp} {θ : Th} {M : Mem} {Fr : Nat → Prop} {κ : Nat} {w : World}

theorem decRow_rep {τ : ETy} : ∀ {n : Nat} {cs : List SV} {l : List τ.T} {vs : List Value}, decRow τ n cs = some l → RepC h θ cs vs → RepC h θ (encR τ l) vs ∧ l.length = n
  | 0, [], l, vs, e, r => by cases e; exact ⟨r, rfl⟩
  | 0, c :: cs, l, vs, e, r => by cases e
  | n + 1, cs, l, vs, e, r => by
    simp only [decRow] at e
    cases hs : splitC cs (szE τ) with
    | none => rw [hs] at e; cases e
    | some p =>
      obtain ⟨p, q⟩ := p
      rw [hs] at e; simp only [Option.bind_some] at e
      cases hd : decE τ p with
      | none => rw [hd] at e; cases e
      | some x =>
        rw [hd] at e; simp only [Option.bind_some] at e
        cases hr : decRow τ n q with
        | none => rw [hr] at e; cases e
        | some l' =>
          rw [hr] at e; cases e
          obtain ⟨r1, r2⟩ := r.split hs
          obtain ⟨q1, q2⟩ := decRow_rep hr r2
          have := (decE_rep hd r1).append q1
          rw [List.take_append_drop] at this
          exact ⟨this, by simp [q2]⟩

/-- A live block goes over to another key, and is written. -/
theorem Inv.move (I : Inv E n0 w0 h0 h θ M Fr w) (f : Fr κ) {k : Nat} {b b' : Blk} {v v' : Value} {id : Nat} (e : M k = some b) (l : b.live) (l' : b'.live) (et : θ k = some (v, some id)) {w' : World}
    (hw : Below n0 w w') (hs : w'.heap.size = w.heap.size) (hother : ∀ i, i ≠ id → w'.heap[i]? = w.heap[i]?) (hb : BlkOk h (fun k => if k = κ then some (v', some id) else θ k) w' n0 b' (v', some id)) :
    Inv E n0 w0 h0 h (fun k => if k = κ then some (v', some id) else θ k) ((M.del k).set κ b') (fun k => Fr k ∧ k ≠ κ) w' := by
  obtain ⟨o1, o2, o3⟩ := I.own e et l
  have tle := Th.le_set (hd := (v', some id)) (I.fresh κ f)
  have del : ∀ {j : Nat} {c : Blk}, j ≠ κ → (M.del k).set κ b' j = some c → j ≠ k ∧ M j = some c := fun {j c} hj hc => by
    rw [Mem.set_ne _ _ hj] at hc
    by_cases hjk : j = k
    · subst hjk; rw [Mem.del_same] at hc; cases hc
    · rw [Mem.del_ne _ hjk] at hc; exact ⟨hjk, hc⟩
  refine ⟨fun i o ei => ?_, fun j c ej => ?_, fun j j' c c' i u u' hj hj' lc lc' ej ej' => ?_, fun j hj => ?_, I.below.trans hw, I.n0le, I.hle, I.hold, I.glob⟩
  · rw [hother i (fun hi => by rw [hi, o2] at ei; cases ei)]; exact I.agree i o ei
  · by_cases hj : j = κ
    · subst hj
      rw [Mem.set_same] at ej
      cases ej
      exact ⟨_, if_pos rfl, hb⟩
    · obtain ⟨hjk, hM⟩ := del hj ej
      obtain ⟨hd, e1, r⟩ := I.blk j c hM
      refine ⟨hd, (if_neg hj).trans e1, r.later (Hp.le.refl _) tle fun u i hu nf => ⟨hother i fun hi => ?_, rfl⟩⟩
      subst hu; subst hi
      exact hjk (I.inj j k c b i u v hM e nf l e1 et)
  · by_cases hk : j = κ <;> by_cases hk' : j' = κ
    · rw [hk, hk']
    · subst hk
      obtain ⟨hjk, hM⟩ := del hk' hj'
      simp only [if_true, Option.some.injEq, Prod.mk.injEq] at ej
      rw [if_neg hk'] at ej'
      obtain ⟨_, rfl⟩ := ej
      exact absurd (I.inj j' k c' b id u' v hM e lc' l ej' et) hjk
    · subst hk'
      obtain ⟨hjk, hM⟩ := del hk hj
      simp only [if_true, Option.some.injEq, Prod.mk.injEq] at ej'
      rw [if_neg hk] at ej
      obtain ⟨_, rfl⟩ := ej'
      exact absurd (I.inj j k c b id u v hM e lc l ej et) hjk
    · obtain ⟨_, hM⟩ := del hk hj
      obtain ⟨_, hM'⟩ := del hk' hj'
      rw [if_neg hk] at ej
      rw [if_neg hk'] at ej'
      exact I.inj j j' c c' i u u' hM hM' lc lc' ej ej'
  · simp only [hj.2, if_false]; exact I.fresh j hj.1
theorem map_add_zero (b : Option Addr) : b.map (·.add 0) = b := by cases b <;> simp [Addr.add]
theorem sliceOwn_ok (I : Inv E n0 w0 h0 h θ M Fr w) (f : Fr κ) {t : TypeId} {k : Nat} {τ : ETy} {l : List τ.T} {ty : TypeId} (hM : M k = some (.row τ l ty)) {lo hi mx : Option SV} {vlo vhi vmx : Option Value} {u : Value} {out : Out} (r : Rep h θ (.own k) u) (rl : RepO h θ lo vlo) (rh : RepO h θ hi vhi) (rm : RepO h θ mx vmx)
    (e : (sliceOwn E M κ t k τ l ty lo hi mx).eval = some out) : StepOk E n0 w0 h0 h θ M Fr κ w (do Pure.pure (.value (← Instr.sliceAt t u vlo vhi vmx))) out := by
  have old : (sliceL E t τ l lo hi mx fun v => .eff v (freeze1 M k)).eval = some out → StepOk E n0 w0 h0 h θ M Fr κ w (do Pure.pure (.value (← Instr.sliceAt t u vlo vhi vmx))) out := fun e => by
    obtain ⟨h1, hle, I1⟩ := I.freeze1 k
    obtain ⟨b, m, c, o, rfl, et⟩ := r.own_inv
    have hM1 : freeze1 M k k = some (.frow τ l) := by rw [freeze1_eq, if_pos rfl, hM]; rfl
    obtain ⟨hd, e1, r1⟩ := I1.blk k _ hM1
    rw [et] at e1; cases e1
    have mo : ∀ {o : Option SV} {v : Option Value}, RepO h θ o v → RepO h1 θ o v := fun {o v} r => by
      cases o <;> cases v <;> first | exact r | exact Rep.mono hle (.refl _) r
    obtain ⟨s, v, e, hr, rs⟩ := sliceL_ok (w := w) (r1 : Rep h1 θ (.rd τ l) _) (mo rl) (mo rh) (mo rm) e
    cases e
    exact ⟨.value v, v, w, h1, θ, by simp [hr], .inl rfl, hle, .refl _, I1.less (fun _ _ e => e) (fun _ f => f.1), rs⟩
  obtain ⟨base, m, c, o, rfl, et⟩ := r.own_inv
  obtain ⟨hd, e1, rb⟩ := I.blk k _ hM
  rw [et] at e1; cases e1
  have hlen : m = l.length ∧ l.length ≤ c := by
    rcases rb with ⟨rfl, a, ea⟩ | ⟨id, c', vs, rest, ty', ea, _, _, _, _, _, hc, _⟩
    · cases ea; exact ⟨rfl, Nat.le_refl _⟩
    · cases ea; exact ⟨rfl, hc⟩
  obtain ⟨rfl, hc⟩ := hlen
  unfold sliceOwn at e
  split at e
  · rename_i kk b _
    simp only [OpT.eval] at e
    cases hb : (b == 0) with
    | false => rw [hb] at e; exact old e
    | true =>
      rw [hb] at e
      obtain rfl : b = 0 := by simpa using hb
      cases ht : sliceTy E t τ with
      | false => rw [ht] at e; cases e
      | true =>
        rw [ht] at e; cases e
        obtain ⟨el, hu, hsz⟩ := sliceTy_some ht
        obtain ⟨i, hi'⟩ := size_pos (E := E) (t := el) (by have := szE_pos τ; omega)
        have hs := run_sizeOf' hi' w
        have hb := run_bounds2 (E := E) (isS := true) (len := l.length) (cap := c) (a := 0) (b := 0) rl rh rfl rfl (by omega) (by omega) (by omega) hc w
        have hrun : (do Pure.pure (Next.value (← Instr.sliceAt t (.slice base l.length c) vlo vhi vmx)) : Sem Next).run E.P w = .ok (.value (.slice base 0 c)) w := by
          rw [rm.none]
          simp only [Sem.run_bind, sliceAt_slice hu, Instr.slice, run_underlying hu, Result.andThen_ok, hb, hs, Sem.run_pure]
          simp only [Int.toNat_zero, Nat.zero_mul, Nat.sub_zero]
          rw [map_add_zero]; simp
        rcases rb with ⟨rfl, a, ea⟩ | ⟨id, c', vs, rest, ty', ea, g1, g2, hh, rc, g3, g4, g5⟩
        · cases ea
          have I' := (I.less (M' := M.del k) (Fr' := Fr) (fun j b hj => by
            by_cases hjk : j = k
            · subst hjk; rw [Mem.del_same] at hj; cases hj
            · rwa [Mem.del_ne _ hjk] at hj) (fun _ f => f)).newNil f (.row τ [] ty) (.slice base 0 0) (.inl ⟨rfl, base, rfl⟩)
          exact ⟨_, _, w, h, _, hrun, .inl rfl, .refl _, Th.le_set (I.fresh κ f), I', .own _ _ _ _ _ (if_pos rfl)⟩
        · cases ea
          have I' := I.move f hM (fun _ _ => by simp) (b' := .row τ [] ty) (fun _ _ => by simp) (v' := .slice (some ⟨id, 0, none⟩) 0 c) et (.refl _ _) rfl (fun _ _ => rfl) (.inr ⟨id, c, [], vs ++ rest, ty', rfl, g1, g2, by simpa using hh, .nil, by simpa using g3, Nat.zero_le _, Nat.zero_le _⟩)
          exact ⟨_, _, w, h, _, hrun, .inl rfl, .refl _, Th.le_set (I.fresh κ f), I', .own _ _ _ _ _ (if_pos rfl)⟩
  · rename_i kk a _
    cases ht : sliceTy E t τ with
    | false => rw [ht] at e; cases e
    | true =>
      rw [ht] at e; simp only [cond_true] at e
      replace e := need_eval e
      obtain ⟨hq, e⟩ := e
      simp only [Bool.and_eq_true, decide_eq_true_eq] at hq
      cases e
      obtain ⟨el, hu, hsz⟩ := sliceTy_some ht
      obtain ⟨i, hi'⟩ := size_pos (E := E) (t := el) (by have := szE_pos τ; omega)
      have hs := run_sizeOf' hi' w
      have hs' : E.P.cellsOf el = szE τ := hsz.symm
      have hb := run_bounds2 (E := E) (isS := true) (len := l.length) (cap := c) (a := a) (b := l.length) rl rh rfl rfl (by omega) (by omega) (by omega) hc w
      refine .of_value I ?_ (.win k (szE τ) a.toNat l.length c base o et (by omega))
      rw [rm.none]
      simp only [sliceAt_slice hu, Instr.slice, Sem.run_bind, run_underlying hu, Result.andThen_ok, hb, hs, hs', Sem.run_pure, Int.toNat_natCast]
  · exact old e
theorem slice_ok (I : Inv E n0 w0 h0 h θ M Fr w) (f : Fr κ) {t : TypeId} {x : SV} {lo hi mx : Option SV} {vlo vhi vmx : Option Value} {u : Value} {out : Out} (r : Rep h θ x u) (rl : RepO h θ lo vlo) (rh : RepO h θ hi vhi) (rm : RepO h θ mx vmx)
    (e : (sliceS E M κ t x lo hi mx).eval = some out) : StepOk E n0 w0 h0 h θ M Fr κ w (do Pure.pure (.value (← Instr.sliceAt t u vlo vhi vmx))) out := by
  have rd : ∀ (τ : ETy) (l : List τ.T), Rep h θ (.rd τ l) u → (sliceL E t τ l lo hi mx valK).eval = some out → StepOk E n0 w0 h0 h θ M Fr κ w (do Pure.pure (.value (← Instr.sliceAt t u vlo vhi vmx))) out := fun τ l r e => by
    obtain ⟨s, v, e, hr, rs⟩ := sliceL_ok (w := w) r rl rh rm e
    cases e
    exact .of_value I hr rs
  unfold sliceS at e
  split at e
  · exact rd _ _ r e
  · obtain ⟨b, rfl, r'⟩ := r.rdx_inv
    exact rd _ _ r' e
  · rename_i k
    split at e
    · rename_i τ l ty hM
      exact sliceOwn_ok I f hM r rl rh rm e
    · rename_i τ l hM
      obtain ⟨b, m, c, o, rfl, et⟩ := r.own_inv
      obtain ⟨hd, e1, r1⟩ := I.blk k _ hM
      rw [et] at e1; cases e1
      exact rd _ _ r1 e
    · cases e
  · rename_i s
    split at e
    · rename_i hu
      cases r
      unfold sliceStr at e
      split at e
      · rename_i a b ea eb
        replace e := need_eval e
        obtain ⟨hq, e⟩ := e
        simp only [Bool.and_eq_true, decide_eq_true_eq] at hq
        have hb := run_bounds2 (E := E) (isS := false) (cap := s.size) rl rh ea eb hq.1 hq.2.1 hq.2.2 (Nat.le_refl _) w
        rw [rm.none]
        cases e
        refine .of_value I ?_ (.v _ ?_)
        · simp [Instr.sliceAt, Instr.slice, run_underlying hu, hb]
        · have : s.size ≤ lim := by assumption
          show (s.extract _ _).size ≤ lim
          rw [ByteArray.size_extract]; omega
      · cases e
    · cases e
  · split at e
    · rename_i el a b hu ea eb
      cases hz : Nat.blt 0 (sizeT E el) with
      | false => rw [hz] at e; cases e
      | true =>
        rw [hz] at e; simp only [cond_true] at e
        replace e := need_eval e
        obtain ⟨hq, e⟩ := e
        simp only [Bool.and_eq_true, decide_eq_true_eq] at hq
        cases r
        obtain ⟨i, hi'⟩ := size_pos (E := E) (t := el) (blt_lt hz)
        have hs := run_sizeOf' hi' w
        have hb := run_bounds2 (E := E) (isS := true) (len := 0) (cap := 0) rl rh ea eb hq.1 hq.2.1 (by omega) (Nat.le_refl _) w
        rw [rm.none]
        cases e
        refine .of_value I ?_ (.v _ trivial)
        simp only [sliceAt_slice hu, Instr.slice, Sem.run_bind, run_underlying hu, Result.andThen_ok, hb, hs, Sem.run_pure]
        have h1 : a.toNat = 0 := by omega
        have h2 : b.toNat = 0 := by omega
        rw [h1, h2]; rfl
    · cases e
  · rename_i g ix
    split at e
    · rename_i n el cs hu hg
      split at e
      · rename_i τ hτ
        split at e
        · rename_i l hl
          cases hz : (Nat.beq (szE τ) (sizeT E el) && Nat.ble n lim) with
          | false => rw [hz] at e; cases e
          | true =>
            rw [hz] at e; cases e
            rw [Bool.and_eq_true] at hz
            have hnl := Nat.le_of_ble_eq_true hz.2
            replace hz := Nat.eq_of_beq_eq_true hz.1
            obtain ⟨rfl, hix⟩ := r.gptr_inv
            obtain rfl := Nat.lt_one_iff.1 hix
            obtain ⟨i, hi'⟩ := size_pos (E := E) (t := el) (by have := szE_pos τ; omega)
            have hs := run_sizeOf' hi' w
            obtain ⟨vs, ty, fz, hh, rc⟩ := I.glob g cs hg
            obtain ⟨rr, hn⟩ := decRow_rep hl (rc.mono I.hle (Th0.le θ))
            have hcell : ∀ i v, vs[i]? = some v → h.cell g (0 + i) = some v := fun i v hv => by
              simp only [Hp.cell, I.hle _ _ hh, Nat.zero_add, List.getElem?_toArray, hv]
            have hrep := Rep.of_row (c := n) rr (by omega) (by omega) hcell
            rw [rl.none, rh.none, rm.none]
            rw [hn] at hrep
            refine .of_value I ?_ hrep
            simp only [Instr.sliceAt, Sem.run_bind, run_underlying hu, Result.andThen_ok, Instr.sureAddr, Sem.run_pure, Instr.sliceBounds, hs, Nat.zero_mul, Nat.sub_zero, Nat.add_zero]
            congr 1
            split <;> simp [Addr.add]
        · cases e
      · cases e
    · cases e
  · cases e

theorem castL_eq {σ τ : ETy} {l : List σ.T} {l' : List τ.T} (e : castL σ τ l = some l') : ∃ h : σ = τ, l' = h ▸ l := by
  cases σ <;> cases τ <;> first | (cases e; exact ⟨rfl, rfl⟩) | cases e
theorem lenS_ok (I : Inv E n0 w0 h0 h θ M Fr w) {x : SV} {u : Value} {n : Nat} (r : Rep h θ x u) (e : lenS M x = some n) : (∃ a c, u = .slice a n c) ∧ n ≤ lim := by
  unfold lenS at e
  split at e
  · cases e; cases r; exact ⟨⟨_, _, rfl⟩, Nat.zero_le _⟩
  · cases e; cases r; exact ⟨⟨_, _, rfl⟩, by assumption⟩
  · split at e
    · rename_i τ l hl
      cases e
      have rd : Rep h θ (.rd τ l) u → (∃ a c, u = .slice a l.length c) ∧ l.length ≤ lim := fun r => by
        obtain ⟨b, c, rfl, _, hm, _⟩ := r.rd_inv
        exact ⟨⟨_, _, rfl⟩, hm⟩
      unfold listS at hl
      split at hl
      · cases hl; exact rd r
      · cases hl
        obtain ⟨b, rfl, r'⟩ := r.rdx_inv
        exact rd r'
      · rename_i k _ _
        obtain ⟨b, m, c, o, rfl, et⟩ := r.own_inv
        split at hl
        · rename_i τ' l' ty' hM
          cases hl
          obtain ⟨hd', e1, r1⟩ := I.blk k _ hM
          rw [et] at e1; cases e1
          rcases r1 with ⟨rfl, a, ea⟩ | ⟨id', c', vs, rest, ty', ea, _, _, _, _, _, _, hm⟩
          · cases ea; exact ⟨⟨_, _, rfl⟩, Nat.zero_le _⟩
          · cases ea; exact ⟨⟨_, _, rfl⟩, hm⟩
        · rename_i τ' l' hM
          cases hl
          obtain ⟨hd', e1, r1⟩ := I.blk k _ hM
          rw [et] at e1; cases e1
          exact rd r1
        · cases hl
      · cases hl
    · cases e
end ops
end Go.Proofs.YtchljgmcempedaaGreatDoor
