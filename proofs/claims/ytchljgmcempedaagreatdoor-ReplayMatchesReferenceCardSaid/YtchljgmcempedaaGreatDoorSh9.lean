/- Each operation of the machine does what the evaluator says: addresses, slices, builtins (nothing is claimed here). -/
import Derived.Test.YtchljgmcempedaaGreatDoorSh8
set_option linter.unusedVariables false
set_option linter.unusedSimpArgs false
namespace Go.Proofs.YtchljgmcempedaaGreatDoor
open Go Go.RowKit

section ops
variable {E : Env} {n0 : Nat} {w0 : World} {h0 h : Hp} {θ : Th} {M : Mem} {Fr : Nat → Prop} {κ : Nat} {w : World}

theorem Rep.loc_inv {k off ix n : Nat} {a : Value} (r : Rep h θ (.loc k off ix n) a) : ∃ id, a = .pointer (some ⟨id, ix + off, none⟩) ∧ θ k = some (.pointer (some ⟨id, 0, none⟩), some id) ∧ ix < n := by
  cases r; exact ⟨_, rfl, ‹_›, ‹_›⟩
theorem Rep.gptr_inv {g off ix n : Nat} {a : Value} (r : Rep h θ (.gptr g off ix n) a) : a = .pointer (some ⟨g, ix + off, none⟩) ∧ ix < n := by
  cases r; exact ⟨rfl, ‹_›⟩
theorem Rep.pp_inv {cs : List SV} {off ix n : Nat} {a : Value} (r : Rep h θ (.pp cs off ix n) a) : ∃ id vs ty fz, a = .pointer (some ⟨id, ix + off, none⟩) ∧ h id = some (.cells vs ty fz) ∧ (∃ l : List Value, vs = l.toArray ∧ RepC h θ cs l) ∧ ix < n := by
  cases r; exact ⟨_, _, _, _, rfl, ‹_›, ⟨_, rfl, ‹_›⟩, ‹_›⟩
theorem Rep.rptr_inv {τ : ETy} {l : List τ.T} {i off : Nat} {a : Value} (r : Rep h θ (.rptr τ l i off) a) :
    ∃ b c, a = .pointer (some ⟨b.block, b.off + (i * szE τ + off), none⟩) ∧ Rep h θ (.rd τ l) (.slice (some b) l.length c) ∧ i < l.length := by
  cases r; exact ⟨_, _, rfl, ‹_›, ‹_›⟩
theorem Rep.optr_inv {k sz i off : Nat} {a : Value} (r : Rep h θ (.optr k sz i off) a) :
    ∃ id n c, a = .pointer (some ⟨id, i * sz + off, none⟩) ∧ θ k = some (.slice (some ⟨id, 0, none⟩) n c, some id) ∧ i < n := by
  cases r; exact ⟨_, _, _, rfl, ‹_›, ‹_›⟩
theorem Rep.rd_inv {τ : ETy} {l : List τ.T} {a : Value} (r : Rep h θ (.rd τ l) a) : ∃ b c, a = .slice b l.length c ∧ l.length ≤ c ∧ l.length ≤ lim ∧ (l ≠ [] → ∃ x, b = some x ∧ x.spot = none) := by
  cases r with
  | rdnil _ b c => exact ⟨b, c, rfl, Nat.zero_le _, Nat.zero_le _, fun h => absurd rfl h⟩
  | rd _ _ x c vals h1 h2 h3 h4 h5 => exact ⟨some x, c, rfl, h2, h5, fun _ => ⟨x, rfl, h1⟩⟩
theorem Rep.rdx_inv {τ : ETy} {l : List τ.T} {a : Value} (r : Rep h θ (.rdx τ l) a) : ∃ b, a = .slice b l.length l.length ∧ Rep h θ (.rd τ l) (.slice b l.length l.length) := by
  cases r with
  | rdx _ _ b n r =>
    obtain ⟨b', c', e, _⟩ := r.rd_inv
    simp only [Value.slice.injEq] at e
    obtain ⟨_, rfl, _⟩ := e
    exact ⟨b, rfl, r⟩
theorem Rep.own_inv {k : Nat} {a : Value} (r : Rep h θ (.own k) a) : ∃ b n c o, a = .slice b n c ∧ θ k = some (.slice b n c, o) := by
  cases r; exact ⟨_, _, _, _, rfl, ‹_›⟩
theorem run_equal_fn {P : Program} {t : TypeId} {ps : Array TypeId} {rs : Array TypeId} {v : Bool} (w : World) (hu : P.underlying t = some (.func ps rs v)) {f : Fn} {xs ys : Array Value} : (Op.equal t (.func f xs ys) .nilFunc).run P w = .ok false w := by
  have : ∀ d, (Op.equalIn (d + 1) t (.func f xs ys) .nilFunc).run P w = .ok false w := fun d => by
    simp only [Op.equalIn, Sem.run_bind, run_underlying hu, Result.andThen_ok, Sem.run_pure]
  exact this 9999
theorem run_equal_nil {P : Program} {t : TypeId} {ps : Array TypeId} {rs : Array TypeId} {v : Bool} (w : World) (hu : P.underlying t = some (.func ps rs v)) : (Op.equal t .nilFunc .nilFunc).run P w = .ok true w := by
  have : ∀ d, (Op.equalIn (d + 1) t .nilFunc .nilFunc).run P w = .ok true w := fun d => by
    simp only [Op.equalIn, Sem.run_bind, run_underlying hu, Result.andThen_ok, Sem.run_pure]
  exact this 9999
theorem binS_ok {op : BinOp} {t : TypeId} {x y : Operand} {sx sy : SV} {a b : Value} {out : Out} (ra : Rep h θ sx a) (rb : Rep h θ sy b) (e : (binS E t op sx sy).eval = some out) :
    PureOk E h θ w (do eqGuard op t x y a b; binOp op t a b) out := by
  have plain : (∀ c, a ≠ .agg c) → a ≠ .nilIface → PureOk E h θ w (binOp op t a b) out → PureOk E h θ w (do eqGuard op t x y a b; binOp op t a b) out := fun h1 h2 ⟨v, u, ho, hr, r⟩ =>
    ⟨v, u, ho, by simp only [Sem.run_bind, run_guard_plain op t x y h1 h2, Result.andThen_ok, hr], r⟩
  unfold binS at e
  split at e
  · rename_i k a' k' b'
    cases ra with
    | v _ oa => cases rb with
      | v _ ob =>
        refine plain (fun _ => by simp) (by simp) ?_
        cases hs : isShift op with
        | true => rw [hs] at e; exact shiftI_ok oa t e
        | false =>
          rw [hs] at e; simp only [cond_false] at e
          cases hk : (k == k') with
          | false => rw [hk] at e; cases e
          | true =>
            rw [hk] at e; simp only [cond_true] at e
            obtain rfl : k = k' := by simpa using hk
            exact binI_ok oa ob hs t e
  · cases ra; cases rb
    exact plain (fun _ => by simp) (by simp) (strB_ok t e)
  · cases ra; cases rb
    split at e
    · rename_i hu
      refine plain (fun _ => by simp) (by simp) ?_
      cases op <;> simp only [aggEq] at e <;> first | (cases e; done) | skip
      · exact ⟨_, _, val_eval e, by simp [binOp, run_equal_fn w hu], .v _ trivial⟩
      · exact ⟨_, _, val_eval e, by simp [binOp, run_equal_fn w hu], .v _ trivial⟩
    · cases e
  · cases ra; cases rb
    split at e
    · rename_i hu
      refine plain (fun _ => by simp) (by simp) ?_
      cases op <;> simp only [aggEq] at e <;> first | (cases e; done) | skip
      · exact ⟨_, _, val_eval e, by simp [binOp, run_equal_nil w hu], .v _ trivial⟩
      · exact ⟨_, _, val_eval e, by simp [binOp, run_equal_nil w hu], .v _ trivial⟩
    · cases e
  · rename_i as bs
    cases hg : E.P.eqGuardType E.P.depth t with
    | true => rw [hg] at e; cases e
    | false =>
      rw [hg] at e; simp only [cond_false] at e
      cases hq : eqV E 10 t (.agg as) (.agg bs) with
      | none => rw [hq] at e; cases e
      | some q =>
        rw [hq] at e
        have heq := eqV_ok (D := 9989) hq ra rb w
        cases ra with
        | agg _ as' ra => cases rb with
          | agg _ bs' rb =>
            have hgu := run_eqGuard_agg (P := E.P) w op t x y as'.toArray bs'.toArray hg
            simp only at e
            cases op <;> simp only [aggEq] at e <;> first | (cases e; done) | skip
            · refine ⟨_, _, val_eval e, ?_, .v _ trivial⟩
              simp only [Sem.run_bind, hgu, Result.andThen_ok, run_eql_struct]
              rw [show (10000 : Nat) = 9989 + 1 + 10 from rfl, heq]; rfl
            · refine ⟨_, _, val_eval e, ?_, .v _ trivial⟩
              simp only [Sem.run_bind, hgu, Result.andThen_ok, run_neq_struct]
              rw [show (10000 : Nat) = 9989 + 1 + 10 from rfl, heq]; rfl
  · cases h1 : boolS sx with
    | none => rw [h1] at e; cases e
    | some p =>
      rw [h1] at e
      cases h2 : boolS sy with
      | none => rw [h2] at e; cases e
      | some q =>
        rw [h2] at e
        obtain ⟨rfl, _⟩ := v_of_bool h1 ra
        obtain ⟨rfl, _⟩ := v_of_bool h2 rb
        refine plain (fun _ => by simp) (by simp) ?_
        split at e
        · rename_i p' q' e1 e2 hu
          cases e1; cases e2
          have heq := run_equal_bool (P := E.P) w t p q hu
          cases op <;> simp only [eqB] at e <;> first | (cases e; done) | skip
          · exact ⟨_, _, val_eval e, by simp [binOp, heq], .v _ trivial⟩
          · exact ⟨_, _, val_eval e, by simp [binOp, heq], .v _ trivial⟩
        · cases e
theorem unS_ok {op : UnOp} {x : SV} {a : Value} {out : Out} (ra : Rep h θ x a) (e : (unS op x).eval = some out) : PureOk E h θ w (Op.unary op a) out := by
  unfold unS at e
  split at e
  · cases ra; exact ⟨_, _, val_eval e, by simp [Op.unary, Op.intArith], .v _ (wrap_ok _ _)⟩
  · cases ra; exact ⟨_, _, val_eval e, by simp [Op.unary, Op.intBits, notI], .v _ (wrap_ok _ _)⟩
  · cases ra; exact ⟨_, _, val_eval e, by simp [Op.unary], .b _⟩
  · cases ra; exact ⟨_, _, val_eval e, by simp [Op.unary], .v _ trivial⟩
  · cases e
theorem convS_ok {src dst : TypeId} {x : SV} {a : Value} {out : Out} (ra : Rep h θ x a) (e : (convS E src dst x).eval = some out) : PureOk E h θ w (convert src dst a) out := by
  unfold convS at e
  split at e
  · rename_i k' n k1 k hs hd
    cases ra
    refine ⟨_, _, val_eval e, ?_, .v _ (wrap_ok _ _)⟩
    simp [convert, run_underlying hs, run_underlying hd, Conv.intToInt]
  · cases e

/-! addresses -/
theorem fieldF_some {s : TypeId} {f : Nat} {fd : Field} (e : fieldF E s f = some fd) : ∃ fs, E.P.underlying s = some (.struct fs) ∧ fs[f]? = some fd := by
  unfold fieldF at e; split at e
  · exact ⟨_, ‹_›, e⟩
  · cases e
theorem fieldAddr_ok {s : TypeId} {x p : SV} {f : Nat} {a : Value} (ra : Rep h θ x a) (e : fieldAddrS E s x f = some p) : ∃ u, (Instr.fieldAt s a f).run E.P w = .ok u w ∧ Rep h θ p u := by
  unfold fieldAddrS at e
  cases hf : fieldF E s f with
  | none => rw [hf] at e; cases e
  | some fd =>
    rw [hf] at e; simp only [Option.bind_some] at e
    obtain ⟨fs, hu, hfd⟩ := fieldF_some hf
    cases hz : Nat.beq (sizeT E fd.type) 0 with
    | true => rw [hz] at e; cases e
    | false =>
      rw [hz] at e; simp only [cond_false] at e
      have hne : ¬ sizeT E fd.type = 0 := fun q => by rw [q] at hz; cases hz
      have hinfo : ∃ i, E.P.info? fd.type = some i := by
        cases hq : E.P.info? fd.type with
        | none => simp [sizeT, Program.cellsOf, hq] at hne
        | some i => exact ⟨i, rfl⟩
      obtain ⟨i, hi⟩ := hinfo
      have hsz := run_sizeOf' hi w
      have run : ∀ b o, (Instr.fieldAt s (.pointer (some ⟨b, o, none⟩)) f).run E.P w = .ok (.pointer (some ⟨b, o + fd.offset, none⟩)) w := fun b o => by
        have hne' : ¬ E.P.cellsOf fd.type = 0 := hne
        simp only [Instr.fieldAt, Sem.run_bind, run_underlying hu, Result.andThen_ok, hfd, Instr.sureAddr, Sem.run_pure, fieldPlace, hsz]
        rw [if_neg hne']
        simp only [Sem.run_pure, Result.andThen_ok, addr_add]
      split at e <;> cases e
      · obtain ⟨id, rfl, et, hi⟩ := ra.loc_inv
        refine ⟨_, run _ _, ?_⟩
        rw [Nat.add_assoc]
        obtain rfl := Nat.lt_one_iff.1 hi
        exact .loc _ _ 0 1 id et (by omega)
      · obtain ⟨rfl, hi⟩ := ra.gptr_inv
        refine ⟨_, run _ _, ?_⟩
        rw [Nat.add_assoc]
        obtain rfl := Nat.lt_one_iff.1 hi
        exact .gptr _ _ 0 1 (by omega)
      · obtain ⟨id, vs, ty, fz, rfl, hh, ⟨l, rfl, rc⟩, hi⟩ := ra.pp_inv
        refine ⟨_, run _ _, ?_⟩
        rw [Nat.add_assoc]
        obtain rfl := Nat.lt_one_iff.1 hi
        exact .pp _ _ 0 1 id l ty fz hh rc (by omega)
      · obtain ⟨b, c, rfl, r, hi⟩ := ra.rptr_inv
        refine ⟨_, run _ _, ?_⟩
        rw [Nat.add_assoc, Nat.add_assoc]
        exact .rptr _ _ _ _ _ _ r hi
      · obtain ⟨id, n, c, rfl, et, hi⟩ := ra.optr_inv
        refine ⟨_, run _ _, ?_⟩
        rw [Nat.add_assoc]
        exact .optr _ _ _ _ _ _ _ et hi
theorem field_ok {s : TypeId} {x p : SV} {f : Nat} {a : Value} (ra : Rep h θ x a) (e : fieldS E s x f = some p) : ∃ u, (Instr.field s a f).run E.P w = .ok u w ∧ Rep h θ p u := by
  unfold fieldS at e
  cases hf : fieldF E s f with
  | none => rw [hf] at e; cases e
  | some fd =>
    rw [hf] at e; simp only [Option.bind_some] at e
    obtain ⟨fs, hu, hfd⟩ := fieldF_some hf
    split at e
    · cases ra with
      | agg cs vs r =>
        obtain ⟨v, hv, rv⟩ := part_ok r e w
        exact ⟨v, by simp [Instr.field, run_underlying hu, hfd, asAgg, hv], rv⟩
    · cases e
theorem range_of {i : Int} {n : Nat} (e : inRange i n = true) : 0 ≤ i ∧ i < (n : Int) := by
  simp only [inRange, Bool.and_eq_true, decide_eq_true_eq] at e; exact e
theorem size_pos {t : TypeId} (hne : 0 < sizeT E t) : ∃ i, E.P.info? t = some i := by
  cases hq : E.P.info? t with
  | none => simp [sizeT, Program.cellsOf, hq] at hne
  | some i => exact ⟨i, rfl⟩
theorem elemA_ok {t el : TypeId} {len : Nat} {k : IntKind} {i : Int} {x p : SV} {a : Value} (hu : E.P.underlying t = some (.array len el)) (ra : Rep h θ x a) (hr : 0 ≤ i ∧ i < (len : Int)) (hp : elemA E len el x i = some p) :
    ∃ u, (Instr.indexAt t a (.int k i)).run E.P w = .ok u w ∧ Rep h θ p u := by
  have hlt : i.toNat < len := by omega
  have run : 0 < sizeT E el → ∀ b o, (Instr.indexAt t (.pointer (some ⟨b, o, none⟩)) (.int k i)).run E.P w = .ok (.pointer (some ⟨b, o + i.toNat * sizeT E el, none⟩)) w := fun hsz b o => by
    obtain ⟨ie, hie⟩ := size_pos hsz
    have hs := run_sizeOf' hie w
    simp only [Instr.indexAt, asIntOf, Sem.run_bind, Sem.run_pure, Result.andThen_ok, run_underlying hu, Instr.sureAddr]
    rw [if_pos hr]
    simp only [Sem.run_bind, hs, Result.andThen_ok, Sem.run_pure, addr_add]
    rfl
  unfold elemA at hp
  split at hp
  · cases hz : Nat.beq (sizeT E el) 1 with
    | false => rw [hz] at hp; cases hp
    | true =>
      rw [hz] at hp; simp only [cond_true] at hp
      have hz := Nat.eq_of_beq_eq_true hz
      rw [hz, Nat.mul_one] at run
      split at hp <;> cases hp
      · obtain ⟨id, rfl, et, hi⟩ := ra.loc_inv
        obtain rfl := Nat.lt_one_iff.1 hi
        refine ⟨_, run (by omega) _ _, ?_⟩
        rw [Nat.zero_add, Nat.add_comm]
        exact .loc _ _ _ _ id et hlt
      · obtain ⟨rfl, hi⟩ := ra.gptr_inv
        obtain rfl := Nat.lt_one_iff.1 hi
        refine ⟨_, run (by omega) _ _, ?_⟩
        rw [Nat.zero_add, Nat.add_comm]
        exact .gptr _ _ _ _ hlt
  · cases hz : Nat.blt 0 (sizeT E el) with
    | false => rw [hz] at hp; cases hp
    | true =>
      rw [hz] at hp; simp only [cond_true] at hp
      have hz := blt_lt hz
      split at hp <;> cases hp
      · obtain ⟨id, rfl, et, hi⟩ := ra.loc_inv
        obtain rfl := Nat.lt_one_iff.1 hi
        refine ⟨_, run hz _ _, ?_⟩
        rw [Nat.add_assoc]
        exact .loc _ _ 0 1 id et (by omega)
      · obtain ⟨rfl, hi⟩ := ra.gptr_inv
        obtain rfl := Nat.lt_one_iff.1 hi
        refine ⟨_, run hz _ _, ?_⟩
        rw [Nat.add_assoc]
        exact .gptr _ _ 0 1 (by omega)
theorem inRange_of {i : Int} {n : Nat} (h : 0 ≤ i ∧ i < (n : Int)) : inRange i n = true := by
  simp only [inRange, Bool.and_eq_true, decide_eq_true_eq]; exact h
theorem elemChain_ok {t el : TypeId} {len : Nat} {k : IntKind} {i : Int} {x : SV} {a : Value} {out : Out} (hu : E.P.underlying t = some (.array len el)) (ra : Rep h θ x a) (hr : 0 ≤ i ∧ i < (len : Int)) :
    ∀ n, n ≤ len → (elemChain E len el x i n).eval = some out → PureOk E h θ w (Instr.indexAt t a (.int k i)) out
  | 0, _, e => by cases e
  | n + 1, hn, e => by
    simp only [elemChain, OpT.eval] at e
    cases hi : (i == Int.ofNat (len - (n + 1))) with
    | true =>
      rw [hi] at e; simp only [cond_true] at e
      have hi := eq_of_beq hi
      obtain ⟨p, hp, rfl⟩ := ofOpt_eval e
      rw [← hi] at hp
      obtain ⟨u, hr', ru⟩ := elemA_ok (w := w) (k := k) hu ra hr hp
      exact ⟨_, _, rfl, hr', ru⟩
    | false =>
      rw [hi] at e; simp only [cond_false] at e
      exact elemChain_ok hu ra hr n (by omega) e
theorem indexAddr_ok (I : Inv E n0 w0 h0 h θ M Fr w) {t : TypeId} {x i : SV} {a b : Value} {out : Out} (ra : Rep h θ x a) (rb : Rep h θ i b) (e : (indexAddrS E M t x i).eval = some out) :
    PureOk E h θ w (Instr.indexAt t a b) out := by
  unfold indexAddrS at e
  split at e
  · rename_i k i len el hu
    cases rb
    obtain ⟨hq, e⟩ := need_eval e
    have hr := range_of hq
    cases hI : isIntT E el with
    | true =>
      rw [hI] at e; simp only [cond_true] at e
      obtain ⟨p, hp, rfl⟩ := ofOpt_eval e
      obtain ⟨u, hr', ru⟩ := elemA_ok (w := w) (k := k) hu ra hr hp
      exact ⟨_, _, rfl, hr', ru⟩
    | false =>
      rw [hI] at e; simp only [cond_false] at e
      exact elemChain_ok hu ra hr len (Nat.le_refl _) e
  · rename_i k i el hu
    cases rb
    split at e
    · rename_i n sz p hp
      replace e := need_eval e
      obtain ⟨hq, e⟩ := e
      have hr := range_of hq
      cases hz : Nat.beq sz (sizeT E el) with
      | false => rw [hz] at e; cases e
      | true =>
        rw [hz] at e; simp only [cond_true] at e
        replace hz := Nat.eq_of_beq_eq_true hz
        have run : 0 < sz → ∀ (x : Addr) (m c : Nat), i < (m : Int) → x.spot = none → (Instr.indexAt t (.slice (some x) m c) (.int k i)).run E.P w = .ok (.pointer (some ⟨x.block, x.off + i.toNat * sz, none⟩)) w := fun hpos x m c hm hsp => by
          obtain ⟨ie, hie⟩ := size_pos (E := E) (t := el) (by omega)
          have hs := run_sizeOf' hie w
          obtain ⟨xb, xo, xs⟩ := x
          simp only at hsp; subst hsp
          simp only [Instr.indexAt, asIntOf, Sem.run_bind, Sem.run_pure, Result.andThen_ok, run_underlying hu]
          rw [if_pos ⟨hr.1, hm⟩]
          simp only [Sem.run_bind, hs, Result.andThen_ok, Sem.run_pure, addr_add]
          rw [hz]; rfl
        have rd : ∀ (σ : ETy) (l : List σ.T), Rep h θ (.rd σ l) a → n = l.length → sz = szE σ → p = .rptr σ l i.toNat 0 → PureOk E h θ w (Instr.indexAt t a (.int k i)) out := fun σ l r hn hσ hp' => by
          obtain ⟨b, c, rfl, hc, _, hx⟩ := r.rd_inv
          have hne : l ≠ [] := fun h => by subst h; simp at hn; omega
          obtain ⟨x, rfl, hsp⟩ := hx hne
          refine ⟨_, _, val_eval e, run (by have := szE_pos σ; omega) x _ _ (by omega) hsp, ?_⟩
          rw [hp', hσ]
          exact .rptr σ l i.toNat 0 x c r (by omega)
        unfold elemS at hp
        split at hp
        · cases hp; exact rd _ _ ra rfl rfl rfl
        · cases hp
          obtain ⟨b, rfl, r⟩ := ra.rdx_inv
          exact rd _ _ r rfl rfl rfl
        · rename_i key
          split at hp
          · rename_i τ l ty hM
            cases hp
            obtain ⟨b, m, c, o, rfl, et⟩ := ra.own_inv
            obtain ⟨hd, e1, r⟩ := I.blk key _ hM
            rw [et] at e1
            simp only [Option.some.injEq] at e1; subst e1
            rcases r with ⟨rfl, a, ea⟩ | ⟨id', c', vs, rest, ty', ea, _, _, hh, rc, _, _⟩
            · simp at hr; omega
            · simp only [Prod.mk.injEq, Value.slice.injEq] at ea
              obtain ⟨⟨rfl, rfl, rfl⟩, rfl⟩ := ea
              refine ⟨_, _, val_eval e, run (szE_pos τ) _ _ _ hr.2 rfl, ?_⟩
              simp only [Nat.zero_add]
              exact .optr key (szE τ) i.toNat 0 id' l.length c et (by omega)
          · rename_i τ l hM
            cases hp
            obtain ⟨b, m, c, o, rfl, et⟩ := ra.own_inv
            obtain ⟨hd, e1, r⟩ := I.blk key _ hM
            rw [et] at e1
            simp only [Option.some.injEq] at e1; subst e1
            exact rd _ _ r rfl rfl rfl
          · cases hp
        · rename_i key m sz'
          cases hb : Nat.blt 0 sz' with
          | false => rw [hb] at hp; cases hp
          | true =>
            rw [hb] at hp; cases hp
            have hb := blt_lt hb
            cases ra with
            | cs _ _ _ id et hl =>
              refine ⟨_, _, val_eval e, run hb _ _ _ hr.2 rfl, ?_⟩
              have := Rep.loc (h := h) key (i.toNat * sz) 0 1 id et (by omega)
              simpa using this
        · cases hp
    · cases e
  · cases e
end ops
end Go.Proofs.YtchljgmcempedaaGreatDoor
