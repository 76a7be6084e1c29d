/- Each operation of the machine does what the evaluator says: slices made and appended to (nothing is claimed here). -/
import Derived.Test.YtjnigggpijfdeaaGreatDoorSh10
set_option linter.unusedVariables false
set_option linter.unusedSimpArgs false
namespace Go.Proofs.YtjnigggpijfdeaaGreatDoor
open Go Go.RowKit

section ops
variable {E : Env} {n0 : Nat} {w0 : World} {h0 h : Hp} {θ : Th} {M : Mem} {Fr : Nat → Prop} {κ : Nat} {w : World}

theorem decRow_rep {τ : ETy} : ∀ {n : Nat} {cs : List SV} {l : List τ.T} {vs : List Value}, decRow τ n cs = some l → RepC h θ cs vs → RepC h θ (encR τ l) vs ∧ l.length = n
  | 0, [], l, vs, e, r => by cases e; exact ⟨r, rfl⟩
  | 0, c :: cs, l, vs, e, r => by cases e
  | n + 1, cs, l, vs, e, r => by
    simp only [decRow] at e
    cases hs : splitC cs (szE τ) with
    | none => rw [hs] at e; cases e
    | some p =>
      obtain ⟨p, q⟩ := p
      rw [hs] at e; simp only [Option.bind_some] at e
      cases hd : decE τ p with
      | none => rw [hd] at e; cases e
      | some x =>
        rw [hd] at e; simp only [Option.bind_some] at e
        cases hr : decRow τ n q with
        | none => rw [hr] at e; cases e
        | some l' =>
          rw [hr] at e; cases e
          obtain ⟨r1, r2⟩ := r.split hs
          obtain ⟨q1, q2⟩ := decRow_rep hr r2
          have := (decE_rep hd r1).append q1
          rw [List.take_append_drop] at this
          exact ⟨this, by simp [q2]⟩

theorem slice_ok (I : Inv E n0 w0 h0 h θ M Fr w) {t : TypeId} {x : SV} {lo hi mx : Option SV} {vlo vhi vmx : Option Value} {u : Value} {out : Out} (r : Rep h θ x u) (rl : RepO h θ lo vlo) (rh : RepO h θ hi vhi) (rm : RepO h θ mx vmx)
    (e : (sliceS E M t x lo hi mx).eval = some out) : StepOk E n0 w0 h0 h θ M Fr κ w (do Pure.pure (.value (← Instr.sliceAt t u vlo vhi vmx))) out := by
  have rd : ∀ (τ : ETy) (l : List τ.T), Rep h θ (.rd τ l) u → (sliceL E t τ l lo hi mx valK).eval = some out → StepOk E n0 w0 h0 h θ M Fr κ w (do Pure.pure (.value (← Instr.sliceAt t u vlo vhi vmx))) out := fun τ l r e => by
    obtain ⟨s, v, e, hr, rs⟩ := sliceL_ok (w := w) r rl rh rm e
    cases e
    exact .of_value I hr rs
  unfold sliceS at e
  split at e
  · exact rd _ _ r e
  · obtain ⟨b, rfl, r'⟩ := r.rdx_inv
    exact rd _ _ r' e
  · rename_i k
    split at e
    · rename_i τ l ty hM
      obtain ⟨h1, hle, I1⟩ := I.freeze1 k
      obtain ⟨b, m, c, o, rfl, et⟩ := r.own_inv
      have hM1 : freeze1 M k k = some (.frow τ l) := by rw [freeze1_eq, if_pos rfl, hM]; rfl
      obtain ⟨hd, e1, r1⟩ := I1.blk k _ hM1
      rw [et] at e1; cases e1
      have mo : ∀ {o : Option SV} {v : Option Value}, RepO h θ o v → RepO h1 θ o v := fun {o v} r => by
        cases o <;> cases v <;> first | exact r | exact Rep.mono hle (.refl _) r
      obtain ⟨s, v, e, hr, rs⟩ := sliceL_ok (w := w) (r1 : Rep h1 θ (.rd τ l) _) (mo rl) (mo rh) (mo rm) e
      cases e
      exact ⟨.value v, v, w, h1, θ, by simp [hr], .inl rfl, hle, .refl _, I1.less (fun _ _ e => e) (fun _ f => f.1), rs⟩
    · rename_i τ l hM
      obtain ⟨b, m, c, o, rfl, et⟩ := r.own_inv
      obtain ⟨hd, e1, r1⟩ := I.blk k _ hM
      rw [et] at e1; cases e1
      exact rd _ _ r1 e
    · cases e
  · rename_i s
    split at e
    · rename_i hu
      cases r
      unfold sliceStr at e
      split at e
      · rename_i a b ea eb
        replace e := need_eval e
        obtain ⟨hq, e⟩ := e
        simp only [Bool.and_eq_true, decide_eq_true_eq] at hq
        have hb := run_bounds2 (E := E) (isS := false) (cap := s.size) rl rh ea eb hq.1 hq.2.1 hq.2.2 (Nat.le_refl _) w
        rw [rm.none]
        cases e
        refine .of_value I ?_ (.v _ ?_)
        · simp [Instr.sliceAt, Instr.slice, run_underlying hu, hb]
        · have : s.size ≤ lim := by assumption
          show (s.extract _ _).size ≤ lim
          rw [ByteArray.size_extract]; omega
      · cases e
    · cases e
  · rename_i g ix
    split at e
    · rename_i n el cs hu hg
      split at e
      · rename_i τ hτ
        split at e
        · rename_i l hl
          cases hz : (Nat.beq (szE τ) (sizeT E el) && Nat.ble n lim) with
          | false => rw [hz] at e; cases e
          | true =>
            rw [hz] at e; cases e
            rw [Bool.and_eq_true] at hz
            have hnl := Nat.le_of_ble_eq_true hz.2
            replace hz := Nat.eq_of_beq_eq_true hz.1
            obtain ⟨rfl, hix⟩ := r.gptr_inv
            obtain rfl := Nat.lt_one_iff.1 hix
            obtain ⟨i, hi'⟩ := size_pos (E := E) (t := el) (by have := szE_pos τ; omega)
            have hs := run_sizeOf' hi' w
            obtain ⟨vs, ty, fz, hh, rc⟩ := I.glob g cs hg
            obtain ⟨rr, hn⟩ := decRow_rep hl (rc.mono I.hle (Th0.le θ))
            have hcell : ∀ i v, vs[i]? = some v → h.cell g (0 + i) = some v := fun i v hv => by
              simp only [Hp.cell, I.hle _ _ hh, Nat.zero_add, List.getElem?_toArray, hv]
            have hrep := Rep.of_row (c := n) rr (by omega) (by omega) hcell
            rw [rl.none, rh.none, rm.none]
            rw [hn] at hrep
            refine .of_value I ?_ hrep
            simp only [Instr.sliceAt, Sem.run_bind, run_underlying hu, Result.andThen_ok, Instr.sureAddr, Sem.run_pure, Instr.sliceBounds, hs, Nat.zero_mul, Nat.sub_zero, Nat.add_zero]
            congr 1
            split <;> simp [Addr.add]
        · cases e
      · cases e
    · cases e
  · cases e

theorem castL_eq {σ τ : ETy} {l : List σ.T} {l' : List τ.T} (e : castL σ τ l = some l') : ∃ h : σ = τ, l' = h ▸ l := by
  cases σ <;> cases τ <;> first | (cases e; exact ⟨rfl, rfl⟩) | cases e
theorem lenS_ok (I : Inv E n0 w0 h0 h θ M Fr w) {x : SV} {u : Value} {n : Nat} (r : Rep h θ x u) (e : lenS M x = some n) : (∃ a c, u = .slice a n c) ∧ n ≤ lim := by
  unfold lenS at e
  split at e
  · cases e; cases r; exact ⟨⟨_, _, rfl⟩, Nat.zero_le _⟩
  · cases e; cases r; exact ⟨⟨_, _, rfl⟩, by assumption⟩
  · split at e
    · rename_i τ l hl
      cases e
      have rd : Rep h θ (.rd τ l) u → (∃ a c, u = .slice a l.length c) ∧ l.length ≤ lim := fun r => by
        obtain ⟨b, c, rfl, _, hm, _⟩ := r.rd_inv
        exact ⟨⟨_, _, rfl⟩, hm⟩
      unfold listS at hl
      split at hl
      · cases hl; exact rd r
      · cases hl
        obtain ⟨b, rfl, r'⟩ := r.rdx_inv
        exact rd r'
      · rename_i k _ _
        obtain ⟨b, m, c, o, rfl, et⟩ := r.own_inv
        split at hl
        · rename_i τ' l' ty' hM
          cases hl
          obtain ⟨hd', e1, r1⟩ := I.blk k _ hM
          rw [et] at e1; cases e1
          rcases r1 with ⟨rfl, a, ea⟩ | ⟨id', c', vs, rest, ty', ea, _, _, _, _, _, _, hm⟩
          · cases ea; exact ⟨⟨_, _, rfl⟩, Nat.zero_le _⟩
          · cases ea; exact ⟨⟨_, _, rfl⟩, hm⟩
        · rename_i τ' l' hM
          cases hl
          obtain ⟨hd', e1, r1⟩ := I.blk k _ hM
          rw [et] at e1; cases e1
          exact rd r1
        · cases hl
      · cases hl
    · cases e
end ops
end Go.Proofs.YtjnigggpijfdeaaGreatDoor
