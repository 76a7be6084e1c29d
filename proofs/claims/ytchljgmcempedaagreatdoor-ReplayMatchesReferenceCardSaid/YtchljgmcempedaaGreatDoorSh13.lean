/- Each operation of the machine does what the evaluator says: the rest, and all of them in one (nothing is claimed here). -/
import Derived.Test.YtchljgmcempedaaGreatDoorSh12
set_option linter.unusedVariables false
set_option linter.unusedSimpArgs false
namespace Go.Proofs.YtchljgmcempedaaGreatDoor
open Go Go.RowKit

section ops
variable {E : Env} {n0 : Nat} {w0 : World} {h0 h : Hp} {θ : Th} {M : Mem} {Fr : Nat → Prop} {κ : Nat} {w : World}

theorem RepL.nil_inv {vs : List Value} (r : RepL h θ [] vs) : vs = [] := by cases r; rfl
theorem RepL.cons_inv {s : SV} {ss : List SV} {vs : List Value} (r : RepL h θ (s :: ss) vs) : ∃ v vs', vs = v :: vs' ∧ Rep h θ s v ∧ RepL h θ ss vs' := by
  cases r; exact ⟨_, _, rfl, ‹_›, ‹_›⟩
theorem RepL.append {ss tt : List SV} {vs ws : List Value} : ∀ {ss : List SV} {vs : List Value}, RepL h θ ss vs → RepL h θ tt ws → RepL h θ (ss ++ tt) (vs ++ ws)
  | [], vs, r, q => by rw [r.nil_inv]; exact q
  | s :: ss, vs, r, q => by
    obtain ⟨v, vs', rfl, r1, r2⟩ := r.cons_inv
    exact .cons _ _ _ _ r1 (RepL.append (ss := ss) (vs := vs') r2 q)
theorem RepL.get : ∀ {ss : List SV} {vs : List Value} {i : Nat} {s : SV}, RepL h θ ss vs → ss[i]? = some s → ∃ v, vs[i]? = some v ∧ Rep h θ s v
  | [], vs, i, s, r, e => by simp at e
  | t :: ss, vs, i, s, r, e => by
    obtain ⟨v, vs', rfl, r1, r2⟩ := r.cons_inv
    cases i with
    | zero => cases e; exact ⟨v, rfl, r1⟩
    | succ i => exact r2.get (by simpa using e)

theorem minmax_ok (I : Inv E n0 w0 h0 h θ M Fr w) {mx : Bool} {args : List SV} {us : List Value} {out : Out} (r : RepL h θ args us) (e : (minmaxS mx args).eval = some out) (ts : Array TypeId) (ty : TypeId) :
    PureOk E h θ w (if mx then Builtin.max_ ts ty us.toArray else Builtin.min_ ts ty us.toArray) out := by
  unfold minmaxS at e
  split at e
  · rename_i k a k' b
    obtain ⟨u1, us1, rfl, r1, r2⟩ := r.cons_inv
    obtain ⟨u2, us2, rfl, r3, r4⟩ := r2.cons_inv
    cases r4.nil_inv
    cases r1 with
    | v _ o1 => cases r3 with
      | v _ o3 =>
        cases hk : (k == k') with
        | false => rw [hk] at e; cases e
        | true =>
          rw [hk] at e; simp only [cond_true] at e
          obtain rfl : k = k' := by simpa using hk
          cases e
          have o1 : okI k a := o1
          have o3 : okI k b := o3
          cases mx with
          | true =>
            refine ⟨_, .int k (if b > a then b else a), rfl, ?_, .v _ ?_⟩
            · simp [Builtin.max_, Builtin.max2]
            · show okI k _
              simp only [cond_true, cond_false]
              split <;> assumption
          | false =>
            refine ⟨_, .int k (if b < a then b else a), rfl, ?_, .v _ ?_⟩
            · simp [Builtin.min_, Builtin.min2]
            · show okI k _
              simp only [cond_true, cond_false]
              split <;> assumption
  · cases e

/-! rows of zeros -/
theorem range0 : Array.range 0 = #[] := by apply Array.ext'; simp
theorem replicate_zero {z : Array Value} (hz : 0 < z.size) : ∀ (n : Nat), ((Array.range (n * z.size)).map (z[· % z.size]!)).toList = (List.replicate n z.toList).flatten
  | 0 => by simp
  | n + 1 => by
    have ih := replicate_zero hz n
    simp only [Array.toList_map, Array.toList_range] at ih ⊢
    rw [Nat.succ_mul, List.range_add, List.map_append, ih, List.replicate_succ', List.flatten_append]
    congr 1
    simp only [List.map_map, List.flatten_singleton]
    apply List.ext_getElem?
    intro j
    by_cases hj : j < z.size
    · simp [hj, List.getElem?_range, Nat.add_mod, Nat.mod_eq_of_lt hj]
    · simp [hj, List.getElem?_eq_none (Nat.le_of_not_lt hj)]
theorem RepC.replicate {cs : List SV} {vs : List Value} (r : RepC h θ cs vs) : ∀ n, RepC h θ ((List.replicate n cs).flatten) ((List.replicate n vs).flatten)
  | 0 => .nil
  | n + 1 => by
    simp only [List.replicate_succ, List.flatten_cons]
    exact r.append (RepC.replicate r n)
theorem encR_replicate (τ : ETy) (n : Nat) (y : τ.T) : encR τ (List.replicate n y) = (List.replicate n (encE τ y)).flatten := by
  induction n with
  | zero => rfl
  | succ n ih => rw [List.replicate_succ, encR_cons, ih, List.replicate_succ, List.flatten_cons]
theorem zeroE_some {e : TypeId} {τ : ETy} {y : τ.T} (q : zeroE E e τ = some y) {i : TypeInfo} {z : Value} (hi : E.P.info? e = some i) (hz : i.zero = some z) : RepC h θ (encE τ y) z.cells.toList := by
  unfold zeroE at q
  cases hc : zeroC E e with
  | none => rw [hc] at q; cases q
  | some cs =>
    rw [hc] at q; simp only [Option.bind_some] at q
    obtain ⟨i', z', hi', hz', r⟩ := zeroC_rep (h := h) (θ := θ) hc
    rw [hi] at hi'; cases hi'
    rw [hz] at hz'; cases hz'
    exact decE_rep q r
theorem makeSlice_ok (I : Inv E n0 w0 h0 h θ M Fr w) (f : Fr κ) {t : TypeId} {l c : SV} {ul uc : Value} {out : Out} (rl : Rep h θ l ul) (rc : Rep h θ c uc) (e : (makeSliceS E t l c κ).eval = some out) :
    StepOk E n0 w0 h0 h θ M Fr κ w (do Pure.pure (.value (← Instr.makeSlice t ul uc))) out := by
  unfold makeSliceS at e
  split at e
  · rename_i el τ k n k' n' he
    cases rl with
    | v _ ol => cases rc with
      | v _ oc =>
        obtain ⟨hu, i, z, hi, hz, hzs, hsz, hb, hpos, hle⟩ := elemTy_some he
        split at e
        · rename_i y hy
          replace e := need_eval e
          obtain ⟨hq, e⟩ := e
          simp only [Bool.and_eq_true, decide_eq_true_eq] at hq
          obtain ⟨q1, rfl, q3⟩ := hq
          cases e
          have rz := zeroE_some (h := h) (θ := θ) hy hi hz
          have hbv : (i.bytes : Int) = (bytesOfT E el : Int) := by rw [hb]; rfl
          obtain ⟨m, rfl⟩ := Int.eq_ofNat_of_zero_le q1
          have q3' : m * i.bytes ≤ lim := by
            have : ((m * i.bytes : Nat) : Int) ≤ (lim : Int) := by rw [Int.natCast_mul, hbv]; exact q3
            omega
          have hm : m ≤ lim := by
            have : m * 1 ≤ m * i.bytes := Nat.mul_le_mul_left _ hpos
            omega
          have hwr : IntKind.i64.wrap (m : Int) = (m : Int) := by
            have := lim_le
            simp only [IntKind.wrap, IntKind.bits, IntKind.signed]
            simp; omega
          have rrow : RepC h θ (encR τ (List.replicate m y)) ((Array.range (m * z.cells.size)).map (z.cells[· % z.cells.size]!)).toList := by
            rw [replicate_zero (by rw [hzs]; exact szE_pos τ), encR_replicate]
            exact rz.replicate m
          have hlen := rrow.len
          rw [sizeC_encR, List.length_replicate] at hlen
          refine own_new I f (cap := m) (rest := []) w.drawn rrow (by rw [List.append_nil]; exact hlen) (by simp) (by simp; exact hm) (e := el) (ty := el) ?_ (fun _ _ e => e) rfl rfl
          have hti : ∀ w, (typeInfo el).run E.P w = .ok i w := fun w => by simp [typeInfo, hi]
          have hsz' := run_sizeOf' hi
          have hzv := run_zeroValue' hi hz
          have hbig : ¬ ((i.bytes : Int) * (m : Int) > 2 ^ 48) := by
            have e1 : (i.bytes : Int) * (m : Int) = ((m * i.bytes : Nat) : Int) := by rw [Int.natCast_mul, Int.mul_comm]
            have e2 : (2 : Int) ^ 48 = 281474976710656 := rfl
            have e3 : lim = 140737488355328 := rfl
            rw [e1, e2]; omega
          simp only [Instr.makeSlice, Sem.run_bind, run_underlying hu, Result.andThen_ok, asInt, asIntOf, Sem.run_pure, hti, hwr]
          have hneg : ¬ ((m : Int) < 0) := by omega
          simp only [hneg, hbig, decide_false, Bool.or_self, Bool.false_or, Bool.false_eq_true, if_false, gt_iff_lt, Int.lt_irrefl, Int.toNat_natCast, run_askRoom, Result.andThen_ok, hsz', Sem.run_bind, Sem.run_ite]
          rw [hsz]
          by_cases hm0 : m = 0
          · subst hm0
            simp [newRow]
            refine congrArg (fun x => w.alloc (Obj.cells x el (0, 0))) ?_
            apply Array.ext'
            simp
          · have hp := szE_pos τ
            have hne : ¬ m * szE τ = 0 := by
              have : 0 < m * szE τ := Nat.mul_pos (by omega) hp
              omega
            rw [if_neg hne]
            simp [hzv, newRow, hzs]
            refine congrArg (fun x => w.alloc (Obj.cells x el (0, 0))) ?_
            apply Array.ext'
            simp
        · cases e
  · cases e

theorem rowSets_fill {τ : ETy} {M0 : Mem} {h1 : Hp} {ks : List Nat} (L : Lies h1 θ M0 ks) :
    ∀ {parts : List (Nat × SV)} {us : List (Nat × Value)} {l l' : List τ.T} {vs : List Value}, rowSets M0 τ l parts = some l' → RepC h1 θ (encR τ l) vs → parts.map (·.1) = us.map (·.1) →
      (∀ (j : Nat) (p : Nat × SV) (u : Nat × Value), parts[j]? = some p → us[j]? = some u → Rep h1 θ p.2 u.2) → (∀ k, k ∈ keysP parts → k ∈ ks) →
      ∃ ns, Instr.fill (fun i => some (i * szE τ, szE τ)) vs.toArray us = some ns.toArray ∧ RepC h1 θ (encR τ l') ns ∧ l'.length = l.length
  | [], us, l, l', vs, e, r, hm, hr, hk => by
    cases e
    cases us with
    | nil => exact ⟨vs, rfl, r, rfl⟩
    | cons u us => simp at hm
  | p :: ps, [], l, l', vs, e, r, hm, hr, hk => by simp at hm
  | p :: ps, (i, v) :: us, l, l', vs, e, r, hm, hr, hk => by
    simp only [rowSets] at e
    simp only [List.map_cons, List.cons.injEq] at hm
    cases h1' : rowSet M0 τ l p with
    | none => rw [h1'] at e; cases e
    | some l1 =>
      rw [h1'] at e; simp only [Option.bind_some] at e
      unfold rowSet at h1'
      cases ha : liftA M0 p.2 with
      | none => rw [ha] at h1'; cases h1'
      | some x =>
        rw [ha] at h1'; simp only [Option.bind_some] at h1'
        cases hc : cellsS x with
        | none => rw [hc] at h1'; cases h1'
        | some cs =>
          rw [hc] at h1'; simp only [Option.bind_some] at h1'
          cases hd : decE τ cs with
          | none => rw [hd] at h1'; cases h1'
          | some y =>
            rw [hd] at h1'; simp only [Option.bind_some] at h1'
            cases hb : Nat.blt p.1 l.length with
            | false => rw [hb] at h1'; cases h1'
            | true =>
              rw [hb] at h1'; cases h1'
              have hlt := blt_lt hb
              have rx : Rep h1 θ x v := liftA_rep ha (hr 0 p (i, v) rfl rfl) (fun k hk' => L k (hk k (by simp [keysP, hk'])))
              have ry := decE_rep hd (rx.cells hc)
              have hlen := ry.len
              rw [szE_enc, Array.length_toList] at hlen
              have r1 := RepC.setE ry r hlt
              have hvl := r.len
              rw [sizeC_encR] at hvl
              have hfit : p.1 * szE τ + szE τ ≤ vs.length := by
                rw [hvl, ← Nat.succ_mul]; exact Nat.mul_le_mul_right _ hlt
              obtain ⟨ns, hfill, rn, hl⟩ := rowSets_fill L (us := us) e r1 hm.2 (fun j p u hj hu => hr (j + 1) p u (by simpa using hj) (by simpa using hu)) (fun k hk' => hk k (by simp [keysP, hk']))
              refine ⟨ns, ?_, rn, by rw [hl, List.length_set]⟩
              have hmi : p.1 = i := hm.1
              rw [fill_one (off := p.1 * szE τ) (by rw [← hmi]) hlen (by simpa using hfit)]
              simpa using hfill
theorem buildSlice_ok (I : Inv E n0 w0 h0 h θ M Fr w) (f : Fr κ) {t : TypeId} {len : Nat} {parts : List (Nat × SV)} {us : List (Nat × Value)} {out : Out} (e : (buildSliceS E M κ t len parts).eval = some out)
    (hm : parts.map (·.1) = us.map (·.1)) (hr : ∀ (j : Nat) (p : Nat × SV) (u : Nat × Value), parts[j]? = some p → us[j]? = some u → Rep h θ p.2 u.2) :
    StepOk E n0 w0 h0 h θ M Fr κ w (do Pure.pure (.value (← Instr.buildSlice t len us.toArray))) out := by
  unfold buildSliceS at e
  split at e
  · rename_i el τ he
    obtain ⟨hu, i, z, hi, hz, hzs, hsz, hb, hpos, hle⟩ := elemTy_some he
    split at e
    · rename_i y hy
      split at e
      · rename_i l hl
        cases hc : Nat.ble (len * sizeT E el) (2 ^ 24) with
        | false => rw [hc] at e; cases e
        | true =>
          rw [hc] at e; simp only [cond_true] at e
          have hc := Nat.le_of_ble_eq_true hc
          have hcs : E.P.cellsOf el = szE τ := hsz
          have hc' : len * szE τ ≤ 2 ^ 24 := by rw [← hcs]; exact hc
          obtain ⟨h1, hle1, I1⟩ := I.freezeM (keysP parts)
          have rz := zeroE_some (h := h1) (θ := θ) hy hi hz
          have rrow : RepC h1 θ (encR τ (List.replicate len y)) ((Array.range (len * szE τ)).map (z.cells[· % z.cells.size]!)).toList := by
            have := replicate_zero (z := z.cells) (by rw [hzs]; exact szE_pos τ) len
            rw [hzs] at this
            rw [← hzs] at this ⊢
            rw [this, encR_replicate]
            exact rz.replicate len
          obtain ⟨ns, hfill, rn, hll⟩ := rowSets_fill I1.lies hl rrow hm (fun j p u hj hu => (hr j p u hj hu).mono hle1 (.refl _)) (fun k hk => hk)
          rw [List.length_replicate] at hll
          have hlen := rn.len
          rw [sizeC_encR, hll] at hlen
          have hlm : len ≤ lim := by
            have h1 : len * 1 ≤ len * szE τ := Nat.mul_le_mul_left _ (szE_pos τ)
            have h2 : (2 : Nat) ^ 24 ≤ lim := by decide
            omega
          have hsz' := run_sizeOf' hi
          have hzv := run_zeroValue' hi hz
          have hrun : (do Pure.pure (.value (← Instr.buildSlice t len us.toArray)) : Sem Next).run E.P w = .ok (.value (.slice (some ⟨w.heap.size, 0, none⟩) l.length len)) { w with drawn := w.drawn, heap := w.heap.push (.cells (ns ++ []).toArray el) } := by
            have h24 : ¬ len * szE τ > 2 ^ 24 := by omega
            simp only [Instr.buildSlice, Sem.run_bind, run_underlying hu, Result.andThen_ok, hsz', hsz]
            rw [if_neg h24]
            rw [Array.toArray_toList] at hfill
            by_cases h0 : len * szE τ = 0
            · rw [if_pos h0]
              rw [h0] at hfill ⊢
              simp only [range0, Array.map_empty] at hfill
              simp only [Sem.run_bind, Sem.run_pure, Result.andThen_ok, range0, Array.map_empty, hfill, newRow, run_newObj, List.append_nil, hll]
            · rw [if_neg h0]
              simp only [Sem.run_bind, hzv, Result.andThen_ok, hfill, Sem.run_pure, newRow, run_newObj, List.append_nil, hll]
          have fin : ∀ {M' : Mem} {out : Out}, (∀ k b, M' k = some b → (freezeM M (keysP parts)) k = some b) → out.mem M κ = M'.set κ (.row τ l el) → out.v = .own κ → StepOk E n0 w0 h0 h θ M Fr κ w (do Pure.pure (.value (← Instr.buildSlice t len us.toArray))) out := fun {M' out} hM ho hv => by
            have ho' : (Out.eff out.v (out.mem M κ)).mem (freezeM M (keysP parts)) κ = M'.set κ (.row τ l el) := ho
            obtain ⟨nx, u, w', h', θ', q1, q2, q3, q4, q5, q6⟩ := own_new (out := .eff out.v (out.mem M κ)) I1 f (cap := len) (rest := []) w.drawn rn (by rw [List.append_nil]; exact hlen) (by omega) (by omega) hrun hM ho' hv
            exact ⟨nx, u, w', h', θ', q1, q2, hle1.trans q3, q4, q5, q6⟩
          split at e
          · rename_i hkp
            cases h0 : Nat.beq len 0 with
            | false =>
              rw [h0] at e; cases e
              exact fin (M' := M) (fun k b e => by rw [hkp]; exact e) rfl rfl
            | true =>
              rw [h0] at e; cases e
              have h0 := Nat.eq_of_beq_eq_true h0
              subst h0
              have hl0 : l.length = 0 := by omega
              rw [hl0] at hrun
              rw [hkp] at I1
              refine ⟨_, _, _, h1, _, hrun, .inl rfl, hle1, Th.le_set (hd := (.slice (some ⟨w.heap.size, 0, none⟩) 0 0, some w.heap.size)) (I.fresh κ f), (I1.new f (.cells (ns ++ []).toArray el) (.frow τ []) _ (.rdnil τ _ 0)).less (fun k b e => ?_) (fun _ hk => hk), .rdx τ [] _ 0 (.rdnil τ _ 0)⟩
              have e : M k = some b := e
              have hne : k ≠ κ := fun hk => by subst hk; exact I.key e f
              rw [Mem.set_ne _ _ hne]; exact e
          · cases e
            exact fin (fun _ _ e => e) rfl rfl
      · cases e
    · cases e
  · split at e
    · rename_i el hu
      split at e
      · rename_i z hz
        split at e
        · rename_i cs hb
          cases hc : ((Nat.blt 0 len && Nat.beq (sizeC z) (sizeT E el)) && (Nat.blt 0 (sizeT E el) && Nat.ble (len * sizeT E el) (2 ^ 24))) with
          | false => rw [hc] at e; cases e
          | true =>
            rw [hc] at e; cases e
            simp only [Bool.and_eq_true] at hc
            have hlen := blt_lt hc.1.1
            have hzc := Nat.eq_of_beq_eq_true hc.1.2
            have hpos := blt_lt hc.2.1
            have hc := Nat.le_of_ble_eq_true hc.2.2
            obtain ⟨i, zv, hi, hzv, rz⟩ := zeroC_rep (h := h) (θ := θ) hz
            have hzs : zv.cells.size = sizeT E el := by
              have := rz.len
              rw [Array.length_toList] at this
              omega
            have hsz' := run_sizeOf' hi
            have hzr := run_zeroValue' hi hzv
            have rrow : RepC h θ ((List.replicate len z).flatten) ((Array.range (len * sizeT E el)).map (zv.cells[· % zv.cells.size]!)).toList := by
              have := replicate_zero (z := zv.cells) (by rw [hzs]; exact hpos) len
              rw [hzs] at this
              rw [← hzs] at this ⊢
              rw [this]
              exact rz.replicate len
            obtain ⟨ns, hfill, rn⟩ := buildP_fill (h := h) (θ := θ) (place := fun i => some (i * E.P.cellsOf el, E.P.cellsOf el)) (fun i cs x cs' vs u ef r rx => by
              obtain ⟨q1, q2, q3⟩ := storeC_put r rx ef
              exact ⟨_, _, rfl, q1, q2, q3⟩) hb rrow hm hr
            rw [Array.toArray_toList] at hfill
            have h24 : ¬ len * E.P.cellsOf el > 2 ^ 24 := by have : len * sizeT E el = len * E.P.cellsOf el := rfl; omega
            have h0 : ¬ len * E.P.cellsOf el = 0 := by have : 0 < len * sizeT E el := Nat.mul_pos hlen hpos; have : len * sizeT E el = len * E.P.cellsOf el := rfl; omega
            have hlm : len ≤ lim := by
              have h1 : len * 1 ≤ len * sizeT E el := Nat.mul_le_mul_left _ hpos
              have h2 : (2 : Nat) ^ 24 ≤ lim := by decide
              omega
            have hrun : (do Pure.pure (.value (← Instr.buildSlice t len us.toArray)) : Sem Next).run E.P w = .ok (.value (.slice (some ⟨w.heap.size, 0, none⟩) len len)) { w with heap := w.heap.push (.cells ns.toArray el) } := by
              simp only [Instr.buildSlice, Sem.run_bind, run_underlying hu, Result.andThen_ok, hsz']
              rw [if_neg h24, if_neg h0]
              have hfill' : Instr.fill (fun i => some (i * E.P.cellsOf el, E.P.cellsOf el)) (Array.map (fun x => zv.cells[x % zv.cells.size]!) (Array.range (len * E.P.cellsOf el))) us = some ns.toArray := hfill
              simp only [Sem.run_bind, hzr, Sem.run_pure, Result.andThen_ok, hfill', newRow, run_newObj]
            have tle := Th.le_set (hd := (.pointer (some ⟨w.heap.size, 0, none⟩), some w.heap.size)) (I.fresh κ f)
            have hnone : h w.heap.size = none := by
              cases hh : h w.heap.size with
              | none => rfl
              | some o => have := I.old_lt hh; omega
            refine ⟨_, _, _, h, _, hrun, .inl rfl, .refl _, tle, I.new f _ (.cells cs el) _ ⟨w.heap.size, ns, el, rfl, I.size, hnone, by simp, rn.mono (.refl _) tle⟩, ?_⟩
            exact .cs κ len _ w.heap.size (if_pos rfl) hlm
        · cases e
      · cases e
    · cases e
end ops
end Go.Proofs.YtchljgmcempedaaGreatDoor
