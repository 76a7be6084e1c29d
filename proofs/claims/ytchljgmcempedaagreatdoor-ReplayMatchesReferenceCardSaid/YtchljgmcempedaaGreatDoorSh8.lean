/- Each operation of the machine does what the evaluator says: operators (nothing is claimed here). -/
import Derived.Test.YtchljgmcempedaaGreatDoorSh7
import Derived.ChangeKeysEq
set_option linter.unusedVariables false
set_option linter.unusedSimpArgs false
namespace Go.Proofs.YtchljgmcempedaaGreatDoor
open Go Go.RowKit

theorem lim_le : (lim : Int) ≤ 9223372036854775807 := by decide
theorem bits_pos (k : IntKind) : 1 ≤ k.bits := by cases k <;> decide
theorem wrap_ok (k : IntKind) (n : Int) : okI k (k.wrap n) := by
  cases k <;> simp [okI, IntKind.wrap, IntKind.min, IntKind.max, IntKind.bits, IntKind.signed] <;> omega
theorem tmod_ok {k : IntKind} {x y : Int} (hx : okI k x) (hy : y ≠ 0) : okI k (x.tmod y) := by
  have h1 : (x.tmod y).natAbs ≤ x.natAbs := by
    rw [Int.natAbs_tmod]; exact Nat.mod_le _ _
  have h2 : 0 ≤ x → 0 ≤ x.tmod y := fun h => Int.tmod_nonneg y h
  have h3 : x ≤ 0 → x.tmod y ≤ 0 := fun h => by
    have := Int.tmod_nonneg y (show 0 ≤ -x by omega)
    rw [Int.neg_tmod] at this; omega
  have hm : k.min ≤ 0 ∧ 0 ≤ k.max := by cases k <;> decide
  obtain ⟨h4, h5⟩ := hx
  unfold okI
  rcases Int.le_total 0 x with h | h
  · have := h2 h; omega
  · have := h3 h; omega
theorem fdiv_ok {k : IntKind} {x : Int} (hx : okI k x) (n : Nat) : okI k (x.fdiv (2 ^ n)) := by
  have hp : (0 : Int) < 2 ^ n := Int.pow_pos (by decide)
  have hm : k.min ≤ 0 ∧ 0 ≤ k.max := by cases k <;> decide
  obtain ⟨h4, h5⟩ := hx
  unfold okI
  rw [Int.fdiv_eq_ediv_of_nonneg _ (Int.le_of_lt hp)]
  rcases Int.le_total 0 x with h | h
  · have h1 : 0 ≤ x / 2 ^ n := Int.ediv_nonneg h (Int.le_of_lt hp)
    have h2 : x / 2 ^ n ≤ x := Int.ediv_le_self _ h
    omega
  · have h1 : x / 2 ^ n ≤ 0 := by
      have := Int.ediv_le_ediv hp h
      simpa using this
    have h2 : x ≤ x / 2 ^ n := by
      refine (Int.le_ediv_iff_mul_le hp).2 ?_
      have : x * 2 ^ n ≤ x * 1 := Int.mul_le_mul_of_nonpos_left h (by omega)
      omega
    omega

section ops
variable {E : Env} {n0 : Nat} {w0 : World} {h0 h : Hp} {θ : Th} {M : Mem} {Fr : Nat → Prop} {κ : Nat} {w : World}

/-- what an operator on values comes to -/
def PureOk (E : Env) (h : Hp) (θ : Th) (w : World) (s : Sem Value) (out : Out) : Prop := ∃ v u, out = .val v none ∧ s.run E.P w = .ok u w ∧ Rep h θ v u
theorem PureOk.step {s : Sem Value} {out : Out} (p : PureOk E h θ w s out) (I : Inv E n0 w0 h0 h θ M Fr w) : StepOk E n0 w0 h0 h θ M Fr κ w (do Pure.pure (.value (← s))) out := by
  obtain ⟨v, u, rfl, hr, r⟩ := p
  exact .of_value I hr r
theorem need_eval {q : Bool} {t : OpT} {out : Out} (e : (OpT.need q t).eval = some out) : q = true ∧ t.eval = some out := by
  simp only [OpT.eval] at e
  cases q with
  | false => cases e
  | true => exact ⟨rfl, e⟩
theorem val_eval {v : SV} {b : Option Blk} {out : Out} (e : (OpT.val v b).eval = some out) : out = .val v b := by cases e; rfl
theorem run_guard_plain (op : BinOp) (t : TypeId) (x y : Operand) {a b : Value} (ha : ∀ c, a ≠ .agg c) (hn : a ≠ .nilIface) (w : World) : (eqGuard op t x y a b).run E.P w = .ok () w := by
  cases a <;> first
    | exact absurd rfl hn
    | exact absurd rfl (ha _)
    | (cases op <;> simp [eqGuard])

theorem binI_ok {op : BinOp} {k : IntKind} {a b : Int} {out : Out} (ha : okI k a) (hb : okI k b) (hs : isShift op = false) (t : TypeId) (e : (binI op k a b).eval = some out) :
    PureOk E h θ w (binOp op t (.int k a) (.int k b)) out := by
  have int : ∀ n, okI k n → out = .val (svI k n) none → (binOp op t (.int k a) (.int k b)).run E.P w = .ok (.int k n) w → PureOk E h θ w (binOp op t (.int k a) (.int k b)) out := fun n hn ho hr =>
    ⟨_, _, ho, hr, .v _ hn⟩
  have bool : ∀ q, out = .val (svB q) none → (binOp op t (.int k a) (.int k b)).run E.P w = .ok (.bool q) w → PureOk E h θ w (binOp op t (.int k a) (.int k b)) out := fun q ho hr =>
    ⟨_, _, ho, hr, .v _ trivial⟩
  cases op <;> simp only [binI] at e <;> first | (cases e; done) | skip
  · exact int _ (wrap_ok _ _) (val_eval e) (by simp [binOp, Op.intArith])
  · exact int _ (wrap_ok _ _) (val_eval e) (by simp [binOp, Op.intArith])
  · exact int _ (wrap_ok _ _) (val_eval e) (by simp [binOp, Op.intArith])
  · obtain ⟨hq, e⟩ := need_eval e
    have hq : b ≠ 0 := by simpa using hq
    exact int _ (wrap_ok _ _) (val_eval e) (by simp [binOp, Op.intDiv, hq])
  · obtain ⟨hq, e⟩ := need_eval e
    have hq : b ≠ 0 := by simpa using hq
    exact int _ (tmod_ok ha hq) (val_eval e) (by simp [binOp, Op.intDiv, hq])
  · exact int _ (wrap_ok _ _) (val_eval e) (by simp [binOp, Op.intBits, andI, orI, xorI, andNotI])
  · exact int _ (wrap_ok _ _) (val_eval e) (by simp [binOp, Op.intBits, andI, orI, xorI, andNotI])
  · exact int _ (wrap_ok _ _) (val_eval e) (by simp [binOp, Op.intBits, andI, orI, xorI, andNotI])
  · exact int _ (wrap_ok _ _) (val_eval e) (by simp [binOp, Op.intBits, andI, orI, xorI, andNotI])
  · exact bool _ (val_eval e) (by simp [binOp, Op.intCmp])
  · exact bool _ (val_eval e) (by simp [binOp, Op.intCmp])
  · exact bool _ (val_eval e) (by simp [binOp, Op.intCmp])
  · exact bool _ (val_eval e) (by simp [binOp, Op.intCmp])
  · exact bool _ (val_eval e) (by simp [binOp, Op.intCmp])
  · exact bool _ (val_eval e) (by simp [binOp, Op.intCmp])
theorem shiftI_ok {op : BinOp} {k k' : IntKind} {a b : Int} {out : Out} (ha : okI k a) (t : TypeId) (e : (shiftI op k a b).eval = some out) :
    PureOk E h θ w (binOp op t (.int k a) (.int k' b)) out := by
  cases op <;> simp only [shiftI] at e <;> first | (cases e; done) | skip
  · obtain ⟨hq, e⟩ := need_eval e
    have hq : ¬ b < 0 := by simpa using hq
    exact ⟨_, _, val_eval e, by simp only [binOp, Op.shift, if_neg hq]; rfl, .v _ (wrap_ok _ _)⟩
  · obtain ⟨hq, e⟩ := need_eval e
    have hq : ¬ b < 0 := by simpa using hq
    exact ⟨_, _, val_eval e, by simp only [binOp, Op.shift, if_neg hq]; rfl, .v _ (fdiv_ok ha _)⟩
theorem strB_ok {op : BinOp} {a b : ByteArray} {out : Out} (t : TypeId) (e : (strB op a b).eval = some out) : PureOk E h θ w (binOp op t (.string a) (.string b)) out := by
  cases op <;> simp only [strB] at e <;> first | (cases e; done) | skip
  · obtain ⟨hq, e⟩ := need_eval e
    have hl := Nat.le_of_ble_eq_true hq
    have hq : ¬ (((a.size + b.size : Nat) : Int) > IntKind.i64.max) := by
      have := lim_le
      have e : IntKind.i64.max = 9223372036854775807 := rfl
      rw [e]; omega
    exact ⟨_, _, val_eval e, by simp only [binOp, Op.stringOp, if_neg hq]; rfl, .v _ (by show (a ++ b).size ≤ lim; rw [ByteArray.size_append]; exact hl)⟩
  · exact ⟨_, _, val_eval e, by simp [binOp, Op.stringOp], .v _ trivial⟩
  · exact ⟨_, _, val_eval e, by simp [binOp, Op.stringOp], .v _ trivial⟩

/-! equality of structs and arrays -/
theorem part_ok {t : TypeId} {cs : List SV} {vs : List Value} {off : Nat} {s : SV} (r : RepC h θ cs vs) (e : loadC E t cs off 0 1 = some s) (w : World) :
    ∃ v, (part t vs.toArray off).run E.P w = .ok v w ∧ Rep h θ s v := by
  unfold loadC at e
  cases hu : E.P.underlying t with
  | none => simp [aggT, hu] at e
  | some d =>
    obtain ⟨i, hinfo⟩ := info_of hu
    have hagg := run_isAgg' hu w
    rw [aggT_eq hu] at e
    cases hd : isAggD d with
    | false =>
      rw [hd] at e hagg
      obtain ⟨v, hv, rv⟩ := r.get e (by omega)
      rw [Nat.zero_add] at hv
      refine ⟨v, ?_, rv⟩
      simp only [part, Sem.run_bind, hagg, Result.andThen_ok, Bool.false_eq_true, if_false, List.getElem?_toArray, hv, Sem.run_pure]
    | true =>
      rw [hd] at e hagg
      simp only [Nat.beq_refl, cond_true] at e
      cases ht : takeC cs off (sizeT E t) with
      | none => rw [ht] at e; cases e
      | some ns =>
        rw [ht] at e; cases e
        obtain ⟨rn, hl⟩ := r.take ht
        refine ⟨.agg ((vs.drop off).take (sizeT E t)).toArray, ?_, .agg _ _ rn⟩
        have hsz := run_sizeOf' hinfo w
        simp only [part, Sem.run_bind, hagg, Result.andThen_ok, if_true, hsz, Sem.run_pure]
        congr 2
        apply Array.ext'
        simp [List.extract, sizeT]
theorem eqInts_ok {D n : Nat} {t el : TypeId} {kd : IntKind} {xs ys : List SV} {as bs : List Value} {q : Bool} (hu : E.P.underlying t = some (.array n el)) (he : E.P.underlying el = some (.int kd)) (hsz : sizeT E el = 1)
    (ra : RepC h θ xs as) (rb : RepC h θ ys bs) (e : eqInts xs ys = some q) (hn : sizeC xs = n) (w : World) :
    (Op.equalIn (D + 2) t (.agg as.toArray) (.agg bs.toArray)).run E.P w = .ok q w := by
  unfold eqInts at e
  split at e
  · rename_i k m l k' m' l'
    cases hb : (k == k' && Nat.beq m m') with
    | false => rw [hb] at e; cases e
    | true =>
      rw [hb] at e; cases e
      simp only [Bool.and_eq_true, beq_iff_eq] at hb
      obtain ⟨rfl, hm⟩ := hb
      obtain rfl := Nat.eq_of_beq_eq_true hm
      rcases ra.inv with ⟨_, _, _, c, _⟩ | ⟨k1, n1, l1, vs1, e1, rfl, hl1, _, r1⟩
      · simp [isCell] at c
      rcases rb.inv with ⟨_, _, _, c, _⟩ | ⟨k2, n2, l2, vs2, e2, rfl, hl2, _, r2⟩
      · simp [isCell] at c
      cases e1; cases e2
      cases r1.nil_inv; cases r2.nil_inv
      obtain ⟨ie, hie⟩ := info_of he
      rw [run_equalIn_array (P := E.P) w (D + 1) _ _ hu hie]
      simp only [sizeC, szS, Nat.add_zero] at hn
      subst hn
      simp only [List.append_nil]
      have hsz' : E.P.cellsOf el = 1 := hsz
      rw [hsz']
      have key : ∀ (c j : Nat), j + c = m → (Op.eqItems (D + 1) el 1 (l.map (Value.int k)).toArray (l'.map (Value.int k)).toArray (List.range' j c)).run E.P w = .ok (decide (l.drop j = l'.drop j)) w := by
        intro c
        induction c with
        | zero =>
          intro j hj
          rw [List.drop_of_length_le (by omega), List.drop_of_length_le (by omega)]
          simp [Op.eqItems]
        | succ c ih =>
          intro j hj
          have h1 : j < l.length := by omega
          have h2 : j < l'.length := by omega
          have p1 : (part el (l.map (Value.int k)).toArray (j * 1)).run E.P w = .ok (.int k l[j]) w := by
            simp [part, isAgg, run_underlying he, h1]
          have p2 : (part el (l'.map (Value.int k)).toArray (j * 1)).run E.P w = .ok (.int k l'[j]) w := by
            simp [part, isAgg, run_underlying he, h2]
          have p3 : (Op.equalIn (D + 1) el (.int k l[j]) (.int k l'[j])).run E.P w = .ok (l[j] == l'[j]) w := run_equalIn_int w D el k kd _ _ he
          rw [List.range'_succ]
          simp only [Op.eqItems, Sem.run_bind, p1, p2, p3, Result.andThen_ok]
          have hd : decide (l.drop j = l'.drop j) = (l[j] == l'[j] && decide (l.drop (j + 1) = l'.drop (j + 1))) := by
            rw [List.drop_eq_getElem_cons h1, List.drop_eq_getElem_cons h2]
            simp only [List.cons.injEq, Bool.decide_and]
            rfl
          rw [hd]
          cases hq : (l[j] == l'[j])
          · simp
          · simpa using ih (j + 1) (by omega)
      have := key m 0 (by omega)
      rw [List.drop_zero, List.drop_zero] at this
      rw [List.range_eq_range']
      exact this
  · cases e
theorem eqV_ok : ∀ {d D : Nat} {t : TypeId} {x y : SV} {a b : Value} {q : Bool}, eqV E d t x y = some q → Rep h θ x a → Rep h θ y b → ∀ w, (Op.equalIn (D + 1 + d) t a b).run E.P w = .ok q w
  | 0, D, t, x, y, a, b, q, e, ra, rb, w => by cases e
  | d + 1, D, t, x, y, a, b, q, e, ra, rb, w => by
    simp only [eqV] at e
    split at e
    · rename_i hu
      cases h1 : boolS x with
      | none => rw [h1] at e; cases e
      | some p =>
        rw [h1] at e; simp only [Option.bind_some] at e
        cases h2 : boolS y with
        | none => rw [h2] at e; cases e
        | some p' =>
          rw [h2] at e; cases e
          rw [(v_of_bool h1 ra).1, (v_of_bool h2 rb).1]
          exact run_equalIn_bool' w _ t _ _ hu
    · rename_i kd hu
      split at e
      · rename_i k a' k' b'
        cases hk : (k == k') with
        | false => rw [hk] at e; cases e
        | true =>
          rw [hk] at e; cases e
          obtain rfl : k = k' := by simpa using hk
          cases ra; cases rb
          exact run_equalIn_int w _ t k kd _ _ hu
      · cases e
    · rename_i hu
      split at e
      · cases e; cases ra; cases rb
        exact run_equalIn_string w _ t _ _ hu
      · cases e
    · rename_i fs hu
      split at e
      · rename_i xs ys
        cases hs : E.P.stoodInHeld t with
        | true => rw [hs] at e; cases e
        | false =>
          rw [hs] at e; simp only [cond_false] at e
          cases ra with
          | agg _ as ra =>
          cases rb with
          | agg _ bs rb =>
          have hfo : E.P.fieldsOf t = fs := by simp [Program.fieldsOf, hu]
          rw [← Nat.add_assoc, run_equalIn_struct w (D + 1 + d) t _ _ (by rw [hfo]; exact hu) hs, hfo]
          have key : ∀ (fl : List Field) (q : Bool), eqFs (eqV E d) E xs ys fl = some q → (Op.eqFields (D + 1 + d) as.toArray bs.toArray fl).run E.P w = .ok q w := by
            intro fl
            induction fl with
            | nil => intro q e; cases e; simp [Op.eqFields]
            | cons f fl ih =>
              intro q e
              simp only [eqFs] at e
              cases hn : (f.name == "_") with
              | true => rw [hn] at e; cases e
              | false =>
                rw [hn] at e; simp only [cond_false] at e
                have hn : f.name ≠ "_" := by simpa using hn
                cases hx : loadC E f.type xs f.offset 0 1 with
                | none => rw [hx] at e; cases e
                | some sx =>
                  rw [hx] at e; simp only [Option.bind_some] at e
                  cases hy : loadC E f.type ys f.offset 0 1 with
                  | none => rw [hy] at e; cases e
                  | some sy =>
                    rw [hy] at e; simp only [Option.bind_some] at e
                    cases hp : eqV E d f.type sx sy with
                    | none => rw [hp] at e; cases e
                    | some p =>
                      rw [hp] at e; simp only [Option.bind_some] at e
                      cases hr : eqFs (eqV E d) E xs ys fl with
                      | none => rw [hr] at e; cases e
                      | some q' =>
                        rw [hr] at e; cases e
                        obtain ⟨va, pa, r1⟩ := part_ok ra hx w
                        obtain ⟨vb, pb, r2⟩ := part_ok rb hy w
                        have p3 := eqV_ok (D := D) hp r1 r2 w
                        simp only [Op.eqFields, hn, ne_eq, not_false_eq_true, if_true, Sem.run_bind, pa, pb, p3, Result.andThen_ok]
                        cases p
                        · simp
                        · simpa using ih q' hr
          exact key _ _ e
      · cases e
    · rename_i n el hu
      split at e
      · rename_i xs ys
        cases ra with
        | agg _ as ra =>
        cases rb with
        | agg _ bs rb =>
        split at e
        · rename_i kd he
          cases hz : (Nat.beq (sizeT E el) 1 && Nat.beq (sizeC xs) n) with
          | false => rw [hz] at e; cases e
          | true =>
            rw [hz] at e; simp only [cond_true] at e
            simp only [Bool.and_eq_true] at hz
            rw [show D + 1 + (d + 1) = (D + d) + 2 by omega]
            exact eqInts_ok hu he (Nat.eq_of_beq_eq_true hz.1) ra rb e (Nat.eq_of_beq_eq_true hz.2) w
        · cases hi : (E.P.info? el).isSome with
          | false => rw [hi] at e; cases e
          | true =>
            rw [hi] at e; simp only [cond_true] at e
            obtain ⟨i, hi⟩ := Option.isSome_iff_exists.1 hi
            rw [← Nat.add_assoc, run_equalIn_array (P := E.P) w (D + 1 + d) _ _ hu hi]
            have key : ∀ (is : List Nat) (q : Bool), eqIs (eqV E d el) E el xs ys is = some q → (Op.eqItems (D + 1 + d) el (E.P.cellsOf el) as.toArray bs.toArray is).run E.P w = .ok q w := by
              intro is
              induction is with
              | nil => intro q e; cases e; simp [Op.eqItems]
              | cons j is ih =>
                intro q e
                simp only [eqIs] at e
                cases hx : loadC E el xs (j * sizeT E el) 0 1 with
                | none => rw [hx] at e; cases e
                | some sx =>
                  rw [hx] at e; simp only [Option.bind_some] at e
                  cases hy : loadC E el ys (j * sizeT E el) 0 1 with
                  | none => rw [hy] at e; cases e
                  | some sy =>
                    rw [hy] at e; simp only [Option.bind_some] at e
                    cases hp : eqV E d el sx sy with
                    | none => rw [hp] at e; cases e
                    | some p =>
                      rw [hp] at e; simp only [Option.bind_some] at e
                      cases hr : eqIs (eqV E d el) E el xs ys is with
                      | none => rw [hr] at e; cases e
                      | some q' =>
                        rw [hr] at e; cases e
                        obtain ⟨va, pa, r1⟩ := part_ok ra hx w
                        obtain ⟨vb, pb, r2⟩ := part_ok rb hy w
                        have p3 := eqV_ok (D := D) hp r1 r2 w
                        have pa' : (part el as.toArray (j * E.P.cellsOf el)).run E.P w = .ok va w := pa
                        have pb' : (part el bs.toArray (j * E.P.cellsOf el)).run E.P w = .ok vb w := pb
                        simp only [Op.eqItems, Sem.run_bind, pa', pb', p3, Result.andThen_ok]
                        cases p
                        · simp
                        · simpa using ih q' hr
            exact key _ _ e
      · cases e
    · cases e
end ops
end Go.Proofs.YtchljgmcempedaaGreatDoor
