/- Each operation of the machine does what the evaluator says: slices and builtins (nothing is claimed here). -/
import Derived.Test.YtchljgmcempedaaGreatDoorSh9
set_option linter.unusedVariables false
set_option linter.unusedSimpArgs false
namespace Go.Proofs.YtchljgmcempedaaGreatDoor
open Go Go.RowKit

section ops
variable {E : Env} {n0 : Nat} {w0 : World} {h0 h : Hp} {θ : Th} {M : Mem} {Fr : Nat → Prop} {κ : Nat} {w : World}

theorem index_ok {t : TypeId} {x i : SV} {a b : Value} {out : Out} (ra : Rep h θ x a) (rb : Rep h θ i b) (e : (indexS E t x i).eval = some out) :
    PureOk E h θ w (Instr.index t a b) out := by
  unfold indexS at e
  split at e
  · rename_i cs k i
    cases rb
    cases ra with
    | agg _ vs r =>
    split at e
    · rename_i len el hu
      replace e := need_eval e
      obtain ⟨hq, e⟩ := e
      have hr := range_of hq
      have hlt : i.toNat < len := by omega
      split at e
      · rename_i kd he
        cases hz : Nat.beq (sizeT E el) 1 with
        | false => rw [hz] at e; cases e
        | true =>
          rw [hz] at e; simp only [cond_true] at e
          have hz := Nat.eq_of_beq_eq_true hz
          obtain ⟨p, hp, rfl⟩ := ofOpt_eval e
          obtain ⟨v, hv, rv⟩ := r.get hp hlt
          obtain ⟨ie, hie⟩ := info_of he
          have hs := run_sizeOf' hie w
          refine ⟨_, v, rfl, ?_, rv⟩
          simp only [Instr.index, asIntOf, Sem.run_bind, Sem.run_pure, Result.andThen_ok, run_underlying hu]
          rw [if_pos hr]
          have hz' : E.P.cellsOf el = 1 := hz
          simp only [Sem.run_bind, hs, Result.andThen_ok, hz', Nat.mul_one, part, isAgg, run_underlying he, Sem.run_pure, Bool.false_eq_true, if_false, List.getElem?_toArray]
          rw [Nat.add_zero] at hv
          simp [hv]
      · obtain ⟨p, hp, rfl⟩ := ofOpt_eval e
        obtain ⟨v, hv, rv⟩ := part_ok r hp w
        have hinfo : ∃ ie, E.P.info? el = some ie := by
          cases hq : E.P.underlying el with
          | none => simp [loadC, aggT, hq] at hp
          | some d => exact info_of hq
        obtain ⟨ie, hie⟩ := hinfo
        have hs := run_sizeOf' hie w
        refine ⟨_, v, rfl, ?_, rv⟩
        simp only [Instr.index, asIntOf, Sem.run_bind, Sem.run_pure, Result.andThen_ok, run_underlying hu]
        rw [if_pos hr]
        simp only [Sem.run_bind, hs, Result.andThen_ok]
        exact hv
    · cases e
  · rename_i s k i
    cases ra; cases rb
    split at e
    · rename_i hu
      replace e := need_eval e
      obtain ⟨hq, e⟩ := e
      have hr := range_of hq
      have hlt : i.toNat < s.data.toList.length := by
        have : s.data.toList.length = s.size := rfl
        omega
      refine ⟨_, .int .u8 (s.data.toList.getD i.toNat 0).toNat, val_eval e, ?_, .v _ ?_⟩
      · simp only [Instr.index, asIntOf, Sem.run_bind, Sem.run_pure, Result.andThen_ok, run_underlying hu, if_pos hr.1]
        have hlt' : i.toNat < s.size := hlt
        rw [getElem?_pos s i.toNat hlt']
        simp only [Sem.run_pure]
        congr 4
        rw [List.getD_eq_getElem?_getD, List.getElem?_eq_getElem hlt]
        rfl
      · have := (s.data.toList.getD i.toNat 0).toNat_lt
        show okI .u8 _
        simp only [okI, show IntKind.u8.min = 0 from rfl, show IntKind.u8.max = 255 from rfl]
        omega
    · cases e
  · cases e

/-! slice expressions -/
theorem Rep.sub {τ : ETy} {l : List τ.T} {base : Option Addr} {n c a b m : Nat} (r : Rep h θ (.rd τ l) (.slice base n c)) (hab : a ≤ b) (hbl : b ≤ l.length) (hbm : b ≤ m) (hmc : m ≤ c) :
    Rep h θ (.rd τ ((l.take b).drop a)) (.slice (if m = a then base else base.map (·.add (a * szE τ))) (b - a) (m - a)) := by
  by_cases hab' : a = b
  · subst hab'
    rw [List.drop_of_length_le (by simp; omega), Nat.sub_self]
    exact .rdnil _ _ _
  · cases r with
    | rdnil => simp at hbl; omega
    | rd _ _ x c vals h1 h2 h3 h4 h5 =>
      obtain ⟨xb, xo, xs⟩ := x
      simp only at h1; subst h1
      rw [if_neg (by omega)]
      simp only [Option.map_some, addr_add]
      have hl : ((l.take b).drop a).length = b - a := by simp; omega
      rw [← hl]
      refine .rd τ _ ⟨xb, xo + a * szE τ, none⟩ _ (fun j => vals (a + j)) rfl (by omega) (fun j x e => ?_) (fun j i v hj e => ?_) (by omega)
      · rw [List.getElem?_drop] at e
        have hlt : a + j < b := by
          have := (List.getElem?_eq_some_iff.1 e).1
          simp at this; omega
        rw [List.getElem?_take_of_lt hlt] at e
        exact h3 _ _ e
      · have := h4 (a + j) i v (by omega) e
        simp only at this ⊢
        rwa [show xo + a * szE τ + (j * szE τ + i) = xo + ((a + j) * szE τ + i) by rw [Nat.add_mul]; omega]
theorem bnd_some {d n : Int} {o : Option SV} (e : bndS d o = some n) : (o = none ∧ n = d) ∨ ∃ k, o = some (.v (.int k n)) := by
  unfold bndS at e; split at e
  · cases e; exact .inl ⟨rfl, rfl⟩
  · cases e; exact .inr ⟨_, rfl⟩
  · cases e
/-- an optional operand -/
def RepO (h : Hp) (θ : Th) : Option SV → Option Value → Prop
  | none, none => True
  | some s, some v => Rep h θ s v
  | _, _ => False
theorem run_bound {v : Value} {k : IntKind} {n : Int} {y : Nat} {code : BoundsCode} (hv : v = .int k n) (h1 : 0 ≤ n) (h2 : n ≤ y) (w : World) : (Instr.sliceBound v y code).run E.P w = .ok n.toNat w := by
  subst hv
  simp [Instr.sliceBound, asIntOf, h1, h2]
theorem RepO.int {o : Option SV} {v : Option Value} {k : IntKind} {n : Int} (r : RepO h θ o v) (e : o = some (.v (.int k n))) : v = some (.int k n) := by
  subst e
  cases v with
  | none => exact r.elim
  | some v => cases (r : Rep h θ (.v (.int k n)) v); rfl
theorem RepO.none {v : Option Value} (r : RepO h θ .none v) : v = .none := by
  cases v with
  | none => rfl
  | some v => exact r.elim
theorem run_bounds2 {isS : Bool} {len cap : Nat} {lo hi : Option SV} {vlo vhi : Option Value} {a b : Int} (rl : RepO h θ lo vlo) (rh : RepO h θ hi vhi) (el : bndS 0 lo = some a) (eh : bndS len hi = some b)
    (h1 : 0 ≤ a) (h2 : a ≤ b) (h3 : b ≤ len) (h4 : len ≤ cap) (w : World) : (Instr.sliceBounds isS len cap vlo vhi none).run E.P w = .ok (a.toNat, b.toNat, cap) w := by
  have hh : (match vhi with | some v => Instr.sliceBound v cap (if isS then .sliceAcap else .sliceAlen) | none => (Pure.pure len : Sem Nat)).run E.P w = .ok b.toNat w := by
    rcases bnd_some eh with ⟨rfl, rfl⟩ | ⟨k, rfl⟩
    · rw [rh.none]; simp
    · rw [rh.int rfl]; exact run_bound rfl (by omega) (by omega) w
  have hl : (match vlo with | some v => Instr.sliceBound v b.toNat .sliceB | none => (Pure.pure 0 : Sem Nat)).run E.P w = .ok a.toNat w := by
    rcases bnd_some el with ⟨rfl, rfl⟩ | ⟨k, rfl⟩
    · rw [rl.none]; simp
    · rw [rl.int rfl]; exact run_bound rfl (by omega) (by omega) w
  cases vhi <;> cases vlo <;> simp_all [Instr.sliceBounds]
theorem run_bounds3 {len cap : Nat} {lo hi mx : Option SV} {vlo vhi vmx : Option Value} {a b : Int} {k : IntKind} (rl : RepO h θ lo vlo) (rh : RepO h θ hi vhi) (rm : RepO h θ mx vmx) (el : bndS 0 lo = some a) (eh : bndS len hi = some b) (hs : hi ≠ none)
    (em : mx = some (.v (.int k b))) (h1 : 0 ≤ a) (h2 : a ≤ b) (h3 : b ≤ len) (h4 : len ≤ cap) (w : World) : (Instr.sliceBounds true len cap vlo vhi vmx).run E.P w = .ok (a.toNat, b.toNat, b.toNat) w := by
  rw [rm.int em]
  have hm : ∀ c, (Instr.sliceBound (.int k b) cap c).run E.P w = .ok b.toNat w := fun c => run_bound rfl (by omega) (by omega) w
  obtain ⟨kh, rfl⟩ : ∃ kh, hi = some (.v (.int kh b)) := by
    rcases bnd_some eh with ⟨h, _⟩ | h
    · exact absurd h hs
    · exact h
  rw [rh.int rfl]
  have hh : ∀ c, (Instr.sliceBound (.int kh b) b.toNat c).run E.P w = .ok b.toNat w := fun c => run_bound rfl (by omega) (by omega) w
  have hl : ∀ c, (match vlo with | some v => Instr.sliceBound v b.toNat c | none => (Pure.pure 0 : Sem Nat)).run E.P w = .ok a.toNat w := fun c => by
    rcases bnd_some el with ⟨rfl, rfl⟩ | ⟨k, rfl⟩
    · rw [rl.none]; simp
    · rw [rl.int rfl]; exact run_bound rfl (by omega) (by omega) w
  cases vlo with
  | none => have := hl .slice3C; simp_all [Instr.sliceBounds]
  | some v => have := hl .slice3C; simp_all [Instr.sliceBounds]
theorem sliceTy_some {t : TypeId} {τ : ETy} (e : sliceTy E t τ = true) : ∃ el, E.P.underlying t = some (.slice el) ∧ szE τ = sizeT E el := by
  unfold sliceTy at e; split at e
  · exact ⟨_, ‹_›, Nat.eq_of_beq_eq_true e⟩
  · cases e
theorem sliceAt_slice {t el : TypeId} (hu : E.P.underlying t = some (.slice el)) (x : Value) (lo hi mx : Option Value) (w : World) : (Instr.sliceAt t x lo hi mx).run E.P w = (Instr.slice t x lo hi mx).run E.P w := by
  simp [Instr.sliceAt, run_underlying hu]
theorem sliceL_ok {t : TypeId} {τ : ETy} {l : List τ.T} {lo hi mx : Option SV} {vlo vhi vmx : Option Value} {u : Value} {K : SV → OpT} {out : Out} (r : Rep h θ (.rd τ l) u) (rl : RepO h θ lo vlo) (rh : RepO h θ hi vhi) (rm : RepO h θ mx vmx)
    (e : (sliceL E t τ l lo hi mx K).eval = some out) : ∃ s v, (K s).eval = some out ∧ (Instr.sliceAt t u vlo vhi vmx).run E.P w = .ok v w ∧ Rep h θ s v := by
  unfold sliceL at e
  cases ht : sliceTy E t τ with
  | false => rw [ht] at e; cases e
  | true =>
    rw [ht] at e; simp only [cond_true] at e
    obtain ⟨el, hu, hsz⟩ := sliceTy_some ht
    obtain ⟨i, hi'⟩ := size_pos (E := E) (t := el) (by have := szE_pos τ; omega)
    have hs := run_sizeOf' hi' w
    have hs' : E.P.cellsOf el = szE τ := hsz.symm
    obtain ⟨base, c, rfl, hc, _, _⟩ := r.rd_inv
    rw [sliceAt_slice hu]
    split at e
    · rename_i a b ea eb
      replace e := need_eval e
      obtain ⟨hq, e⟩ := e
      simp only [Bool.and_eq_true, decide_eq_true_eq] at hq
      have hb := run_bounds2 (E := E) (isS := true) (cap := c) rl rh ea eb hq.1 hq.2.1 hq.2.2 hc w
      rw [rm.none]
      refine ⟨_, _, e, ?_, r.sub (a := a.toNat) (b := b.toNat) (m := c) (by omega) (by omega) (by omega) (Nat.le_refl _)⟩
      simp only [Instr.slice, Sem.run_bind, run_underlying hu, Result.andThen_ok, hb, hs, hs', Sem.run_pure]
    · rename_i a b _ k c' ea eb
      replace e := need_eval e
      obtain ⟨hq, e⟩ := e
      simp only [Bool.and_eq_true, decide_eq_true_eq] at hq
      obtain ⟨q1, q2, q3, rfl⟩ := hq
      have hb := run_bounds3 (E := E) (cap := c) rl rh rm ea eb (by simp) rfl q1 q2 q3 hc w
      have rs := r.sub (a := a.toNat) (b := b.toNat) (m := b.toNat) (by omega) (by omega) (by omega) (by omega)
      refine ⟨_, _, e, ?_, .rdx _ _ _ _ rs⟩
      simp only [Instr.slice, Sem.run_bind, run_underlying hu, Result.andThen_ok, hb, hs, hs', Sem.run_pure]
    · cases e
end ops
end Go.Proofs.YtchljgmcempedaaGreatDoor
