/- Each operation of the machine does what the evaluator says: new blocks, structs, slices' literals (nothing is claimed here). -/
import Derived.Test.YtchljgmcempedaaGreatDoorSh6
set_option linter.unusedVariables false
set_option linter.unusedSimpArgs false
namespace Go.Proofs.YtchljgmcempedaaGreatDoor
open Go Go.RowKit

section ops
variable {E : Env} {n0 : Nat} {w0 : World} {h0 h : Hp} {θ : Th} {M : Mem} {Fr : Nat → Prop} {κ : Nat} {w : World}

/-! a zero value's chunks -/
theorem takeI_rep {k : IntKind} : ∀ {n : Nat} {vs : List Value} {l : List Int} {r : List Value}, takeI k n vs = some (l, r) →
    vs = l.map (Value.int k) ++ r ∧ l.length = n ∧ ∀ x, x ∈ l → okI k x
  | 0, vs, l, r, e => by cases e; exact ⟨rfl, rfl, by simp⟩
  | n + 1, [], l, r, e => by simp [takeI] at e
  | n + 1, v :: vs, l, r, e => by
    cases v with
    | int k' x =>
      simp only [takeI] at e
      cases hb : (k == k' && okB (.int k x)) with
      | false => rw [hb] at e; cases e
      | true =>
        rw [hb] at e; simp only [cond_true] at e
        simp only [Bool.and_eq_true, beq_iff_eq] at hb
        obtain ⟨rfl, hok⟩ := hb
        cases ht : takeI k n vs with
        | none => rw [ht] at e; cases e
        | some p =>
          obtain ⟨l', r'⟩ := p
          rw [ht] at e; cases e
          obtain ⟨e1, e2, e3⟩ := takeI_rep ht
          refine ⟨by simp [e1], by simp [e2], fun y hy => ?_⟩
          rcases List.mem_cons.1 hy with rfl | hy
          · exact okB_ok hok
          · exact e3 y hy
    | _ => simp [takeI] at e
theorem chunk1_rep {vs : List Value} {ss : List SV} {r : List Value} (e : chunk1 vs = some (ss, r)) : ∃ c, vs = c ++ r ∧ RepC h θ ss c := by
  cases vs with
  | nil => cases e
  | cons v vs =>
    have other : (bif okB v then some ([SV.v v], vs) else none) = some (ss, r) → ∃ c, v :: vs = c ++ r ∧ RepC h θ ss c := fun e => by
      cases hb : okB v with
      | false => rw [hb] at e; cases e
      | true =>
        rw [hb] at e; cases e
        refine ⟨[v], rfl, .cell _ _ _ _ ?_ (.v _ (okB_ok hb)) .nil⟩
        have := okB_ok hb
        cases v <;> first | rfl | exact this.elim
    cases v with
    | bool q => cases e; exact ⟨[.bool q], rfl, .cell _ _ _ _ rfl (.b q) .nil⟩
    | _ => exact other e
theorem chunkL_rep {f : TypeId → List Value → Option (List SV × List Value)} (hf : ∀ t vs ss r, f t vs = some (ss, r) → ∃ c, vs = c ++ r ∧ RepC h θ ss c) :
    ∀ {ts : List TypeId} {vs : List Value} {ss : List SV} {r : List Value}, chunkL f ts vs = some (ss, r) → ∃ c, vs = c ++ r ∧ RepC h θ ss c
  | [], vs, ss, r, e => by cases e; exact ⟨[], rfl, .nil⟩
  | t :: ts, vs, ss, r, e => by
    simp only [chunkL] at e
    cases h1 : f t vs with
    | none => rw [h1] at e; cases e
    | some p =>
      obtain ⟨s1, r1⟩ := p
      rw [h1] at e; simp only [Option.bind_some] at e
      cases h2 : chunkL f ts r1 with
      | none => rw [h2] at e; cases e
      | some q =>
        obtain ⟨s2, r2⟩ := q
        rw [h2] at e; cases e
        obtain ⟨c1, rfl, q1⟩ := hf _ _ _ _ h1
        obtain ⟨c2, rfl, q2⟩ := chunkL_rep hf h2
        exact ⟨c1 ++ c2, by simp, q1.append q2⟩
theorem chunkP_rep {P : Program} : ∀ {d : Nat} {t : TypeId} {vs : List Value} {ss : List SV} {r : List Value}, chunkP P d t vs = some (ss, r) → ∃ c, vs = c ++ r ∧ RepC h θ ss c
  | 0, t, vs, ss, r, e => by cases e
  | d + 1, t, vs, ss, r, e => by
    simp only [chunkP] at e
    split at e
    · exact chunkL_rep (fun t vs ss r e => chunkP_rep e) e
    · split at e
      · rename_i n el _ _ k _
        cases ht : takeI k n vs with
        | none => rw [ht] at e; cases e
        | some p =>
          obtain ⟨l, r'⟩ := p
          rw [ht] at e; cases e
          obtain ⟨e1, e2, e3⟩ := takeI_rep ht
          refine ⟨_, e1, ?_⟩
          have := RepC.arr (h := h) (θ := θ) _ _ l [] [] e2 e3 .nil
          simpa using this
      · exact chunkL_rep (fun t vs ss r e => chunkP_rep e) e
    · exact chunk1_rep e
theorem zeroC_rep {t : TypeId} {cs : List SV} (e : zeroC E t = some cs) : ∃ i z, E.P.info? t = some i ∧ i.zero = some z ∧ RepC h θ cs z.cells.toList := by
  unfold zeroC at e
  cases hi : E.P.info? t with
  | none => rw [hi] at e; cases e
  | some i =>
    rw [hi] at e; simp only [Option.bind_some] at e
    cases hz : i.zero with
    | none => rw [hz] at e; cases e
    | some z =>
      rw [hz] at e; simp only [Option.bind_some] at e
      cases hc : chunkP E.P 10 t z.cells.toList with
      | none => rw [hc] at e; cases e
      | some p =>
        obtain ⟨ss, r⟩ := p
        rw [hc] at e; simp only [Option.bind_some] at e
        cases r with
        | cons x r => cases e
        | nil =>
          cases e
          obtain ⟨c, e1, r1⟩ := chunkP_rep (h := h) (θ := θ) hc
          refine ⟨i, z, rfl, hz, ?_⟩
          rw [e1]; simpa using r1
theorem run_zeroValue' {P : Program} {t : TypeId} {i : TypeInfo} {z : Value} (hi : P.info? t = some i) (hz : i.zero = some z) (w : World) : (zeroValue t).run P w = .ok z w := by
  simp [zeroValue, typeInfo, hi, hz]

/-! new variables -/
theorem newVar_ok (I : Inv E n0 w0 h0 h θ M Fr w) (f : Fr κ) {t : TypeId} {cs : List SV} {v : Value} (r : RepC h θ cs v.cells.toList) {s : Sem Value}
    (hr : s.run E.P w = .ok (.pointer (some ⟨w.heap.size, 0, none⟩)) { w with heap := w.heap.push (.cells v.cells t) }) :
    StepOk E n0 w0 h0 h θ M Fr κ w (do Pure.pure (.value (← s))) (.val (.loc κ 0 0 1) (some (.cells cs t))) := by
  have tle := Th.le_set (hd := (.pointer (some ⟨w.heap.size, 0, none⟩), some w.heap.size)) (I.fresh κ f)
  have hnone : h w.heap.size = none := by
    cases hh : h w.heap.size with
    | none => rfl
    | some o => have := I.old_lt hh; omega
  refine ⟨_, _, _, h, _, by simp [hr]; exact ⟨rfl, rfl⟩, .inl rfl, .refl _, tle, I.new f _ (.cells cs t) _ ⟨w.heap.size, v.cells.toList, t, rfl, I.size, hnone, ?_, r.mono (.refl _) tle⟩, ?_⟩
  · simp
  · exact .loc κ 0 0 1 w.heap.size (if_pos rfl) (by omega)
theorem box_ok (I : Inv E n0 w0 h0 h θ M Fr w) (f : Fr κ) {t : TypeId} {cs : List SV} {s : SV} {u : Value} (e : cellsS s = some cs) (r : Rep h θ s u) :
    StepOk E n0 w0 h0 h θ M Fr κ w (do Pure.pure (.value (← Instr.box t u))) (.val (.loc κ 0 0 1) (some (.cells cs t))) :=
  newVar_ok I f (r.cells e) (by simp [Instr.box, newVar, newRow])
theorem alloc_ok (I : Inv E n0 w0 h0 h θ M Fr w) (f : Fr κ) {t : TypeId} {cs : List SV} (e : zeroC E t = some cs) :
    StepOk E n0 w0 h0 h θ M Fr κ w (do Pure.pure (.value (← Instr.alloc t true (.tuple #[])))) (.val (.loc κ 0 0 1) (some (.cells cs t))) := by
  obtain ⟨i, z, hi, hz, r⟩ := zeroC_rep (h := h) (θ := θ) e
  exact newVar_ok I f r (by simp [Instr.alloc, run_zeroValue' hi hz, newVar, newRow])

/-! structs and arrays by value -/
theorem foldl_setIf : ∀ (us : List Value) (off k : Nat) (cells : Array Value), off + k + us.length ≤ cells.size →
    ((us.zipIdx k).foldl (fun cs (x : Value × Nat) => cs.setIfInBounds (off + x.2) x.1) cells).toList = cells.toList.take (off + k) ++ us ++ cells.toList.drop (off + k + us.length)
  | [], off, k, cells, hl => by simp
  | u :: us, off, k, cells, hl => by
    simp only [List.length_cons] at hl
    rw [List.zipIdx_cons, List.foldl_cons, foldl_setIf us off (k + 1) _ (by simp; omega)]
    simp only [Array.toList_setIfInBounds]
    have hs := list_seg_step cells.toList (off + k) u us (by simp; omega)
    simpa [Nat.add_assoc] using hs
theorem fill_one {place : Nat → Option (Nat × Nat)} {cells : Array Value} {i off size : Nat} {v : Value} {rest : List (Nat × Value)} (hp : place i = some (off, size)) (hs : v.cells.size = size) (hl : off + size ≤ cells.size) :
    Instr.fill place cells ((i, v) :: rest) = Instr.fill place (cells.toList.take off ++ v.cells.toList ++ cells.toList.drop (off + size)).toArray rest := by
  simp only [Instr.fill, hp]
  rw [if_neg (by simp; omega)]
  congr 1
  apply Array.ext'
  have := foldl_setIf v.cells.toList off 0 cells (by simp; omega)
  simp only [Nat.add_zero, Array.length_toList, hs] at this
  rw [List.toList_toArray, ← this, ← Array.foldl_toList, Array.toList_zipIdx]
theorem storeC_put {t : TypeId} {cs cs' : List SV} {vs : List Value} {off : Nat} {x : SV} {u : Value} (rc : RepC h θ cs vs) (rx : Rep h θ x u) (e : storeC E t cs off 0 1 x = some cs') :
    RepC h θ cs' (vs.take off ++ u.cells.toList ++ vs.drop (off + sizeT E t)) ∧ off + sizeT E t ≤ vs.length ∧ u.cells.size = sizeT E t := by
  have one : isCell x = true → (bif isCell x && Nat.beq (sizeT E t) 1 then setC cs off 0 1 x else none) = some cs' → RepC h θ cs' (vs.take off ++ u.cells.toList ++ vs.drop (off + sizeT E t)) ∧ off + sizeT E t ≤ vs.length ∧ u.cells.size = sizeT E t := fun c e => by
    rw [c, Bool.true_and] at e
    cases hs : Nat.beq (sizeT E t) 1 with
    | false => rw [hs] at e; cases e
    | true =>
      rw [hs] at e; simp only [cond_true] at e
      have hs := Nat.eq_of_beq_eq_true hs
      obtain ⟨r1, hlt⟩ := rc.set e (by omega) c rx
      rw [Nat.zero_add] at r1 hlt
      rw [isCell_cells c rx, hs]
      refine ⟨?_, by omega, by simp⟩
      rwa [set_eq_mid _ _ _ hlt] at r1
  cases rx with
  | agg new us rn =>
    simp only [storeC] at e
    cases hb : (Nat.beq 1 1 && (Nat.blt 0 (sizeT E t) && Nat.beq (sizeC new) (sizeT E t))) with
    | false => rw [hb] at e; cases e
    | true =>
      rw [hb] at e; simp only [cond_true] at e
      simp only [Bool.and_eq_true] at hb
      have hsz := Nat.eq_of_beq_eq_true hb.2.2
      have hl := rn.len
      obtain ⟨r1, hlt⟩ := rc.put e rn (by omega)
      exact ⟨r1, hlt, by simp [Value.cells]; omega⟩
  | v _ o =>
    refine one ?_ (by simpa only [storeC] using e)
    cases h1 : isCell (SV.v u) with
    | true => rfl
    | false => simp [storeC, h1] at e
  | undef => simp [storeC, isCell] at e
  | junk x => simp [storeC, isCell] at e
  | tup ss vs r => simp [storeC, isCell] at e
  | b q => exact one rfl (by simpa only [storeC] using e)
  | rdnil τ a c => exact one rfl (by simpa only [storeC] using e)
  | rd τ l a c vals h1 h2 h3 h4 h5 => exact one rfl (by simpa only [storeC] using e)
  | rdx τ l a n r => exact one rfl (by simpa only [storeC] using e)
  | own k a n c o e' => exact one rfl (by simpa only [storeC] using e)
  | loc k off ix n id e' l => exact one rfl (by simpa only [storeC] using e)
  | gptr g off ix n l => exact one rfl (by simpa only [storeC] using e)
  | rptr τ l i off a c r l' => exact one rfl (by simpa only [storeC] using e)
  | optr k sz i off id n c e' l => exact one rfl (by simpa only [storeC] using e)
  | fn f fs cs' xs ys r1 r2 => exact one rfl (by simpa only [storeC] using e)
  | map k id e' => exact one rfl (by simpa only [storeC] using e)
  | cs k n sz id e' l => exact one rfl (by simpa only [storeC] using e)
  | pp cs' off ix n id vs ty fz e' r' l => exact one rfl (by simpa only [storeC] using e)
  | yld k id e' => exact one rfl (by simpa only [storeC] using e)
  | iter k id e' => exact one rfl (by simpa only [storeC] using e)
  | win k sz lo n c a o e' l => exact one rfl (by simpa only [storeC] using e)
theorem buildP_fill {f : Nat → List SV → SV → Option (List SV)} {place : Nat → Option (Nat × Nat)}
    (hf : ∀ i cs x cs' vs u, f i cs x = some cs' → RepC h θ cs vs → Rep h θ x u → ∃ off size, place i = some (off, size) ∧ RepC h θ cs' (vs.take off ++ u.cells.toList ++ vs.drop (off + size)) ∧ off + size ≤ vs.length ∧ u.cells.size = size) :
    ∀ {parts : List (Nat × SV)} {us : List (Nat × Value)} {cs cs' : List SV} {vs : List Value}, buildP f cs parts = some cs' → RepC h θ cs vs → parts.map (·.1) = us.map (·.1) → (∀ (j : Nat) (p : Nat × SV) (u : Nat × Value), parts[j]? = some p → us[j]? = some u → Rep h θ p.2 u.2) →
      ∃ ns, Instr.fill place vs.toArray us = some ns.toArray ∧ RepC h θ cs' ns
  | [], us, cs, cs', vs, e, r, hm, hr => by
    cases e
    cases us with
    | nil => exact ⟨vs, rfl, r⟩
    | cons u us => simp at hm
  | p :: ps, [], cs, cs', vs, e, r, hm, hr => by simp at hm
  | p :: ps, u :: us, cs, cs', vs, e, r, hm, hr => by
    simp only [buildP] at e
    simp only [List.map_cons, List.cons.injEq] at hm
    cases h1 : f p.1 cs p.2 with
    | none => rw [h1] at e; cases e
    | some c1 =>
      rw [h1] at e; simp only [Option.bind_some] at e
      obtain ⟨off, size, hp, r1, hl, hs⟩ := hf _ _ _ _ _ _ h1 r (hr 0 p u rfl rfl)
      obtain ⟨ns, hfill, rn⟩ := buildP_fill hf (us := us) e r1 hm.2 (fun j p u hj hu => hr (j + 1) p u (by simpa using hj) (by simpa using hu))
      refine ⟨ns, ?_, rn⟩
      obtain ⟨i, v⟩ := u
      have hmi : p.1 = i := hm.1
      rw [fill_one (off := off) (by rw [← hmi]; exact hp) hs (by simpa using hl)]
      simpa using hfill
/-- values and their parts, by a common map -/
theorem run_mapM_sizes {P : Program} (w : World) : ∀ (l : List Field), (∀ f ∈ l, ∃ i, P.info? f.type = some i) →
    (l.mapM fun f => (do Pure.pure (f.offset, ← sizeOf f.type) : Sem (Nat × Nat))).run P w = .ok (l.map fun f => (f.offset, P.cellsOf f.type)) w
  | [], _ => by simp
  | f :: l, hf => by
    obtain ⟨i, hi⟩ := hf f (by simp)
    have ih := run_mapM_sizes w l (fun g hg => hf g (by simp [hg]))
    simp only [List.mapM_cons, Sem.run_bind, run_sizeOf' hi w, Result.andThen_ok, Sem.run_pure, ih, List.map_cons]
theorem build_ok (I : Inv E n0 w0 h0 h θ M Fr w) {t : TypeId} {parts : List (Nat × SV)} {us : List (Nat × Value)} {cs : List SV} (e : buildC E t parts = some cs)
    (hm : parts.map (·.1) = us.map (·.1)) (hr : ∀ (j : Nat) (p : Nat × SV) (u : Nat × Value), parts[j]? = some p → us[j]? = some u → Rep h θ p.2 u.2) :
    ∃ v, (Instr.build t us.toArray).run E.P w = .ok v w ∧ Rep h θ (.agg cs) v := by
  unfold buildC at e
  cases hz : zeroC E t with
  | none => rw [hz] at e; cases e
  | some z =>
    rw [hz] at e; simp only [Option.bind_some] at e
    obtain ⟨i, zv, hi, hzv, rz⟩ := zeroC_rep (h := h) (θ := θ) hz
    have hzr := run_zeroValue' hi hzv w
    split at e
    · rename_i fs hu
      cases hb : fs.toList.all (fun f => (E.P.info? f.type).isSome) with
      | false => rw [hb] at e; cases e
      | true =>
        rw [hb] at e; simp only [cond_true] at e
        have hmap := run_mapM_sizes (P := E.P) w fs.toList (fun f hf => Option.isSome_iff_exists.1 (List.all_eq_true.1 hb f hf))
        have hmap' : (fs.mapM fun f => (do Pure.pure (f.offset, ← sizeOf f.type) : Sem (Nat × Nat))).run E.P w = .ok (fs.map fun f => (f.offset, E.P.cellsOf f.type)) w := by
          rw [Array.mapM_eq_mapM_toList]
          simp only [Sem.run_map, hmap, Result.andThen_ok]
          congr 1
          apply Array.ext'; simp
        obtain ⟨ns, hfill, rn⟩ := buildP_fill (h := h) (θ := θ) (place := ((fs.map fun f => (f.offset, E.P.cellsOf f.type))[·]?)) (fun i cs x cs' vs u ef r rx => by
          cases hfi : fs[i]? with
          | none => rw [hfi] at ef; cases ef
          | some f =>
            rw [hfi] at ef; simp only [Option.bind_some] at ef
            obtain ⟨q1, q2, q3⟩ := storeC_put r rx ef
            exact ⟨f.offset, E.P.cellsOf f.type, by simp [hfi], q1, q2, q3⟩) e rz hm hr
        refine ⟨.agg ns.toArray, ?_, .agg _ _ rn⟩
        rw [Array.toArray_toList] at hfill
        simp only [Instr.build, Sem.run_bind, hzr, Result.andThen_ok, run_underlying hu, hmap', hfill, List.toList_toArray, Sem.run_pure]
    · rename_i len el hu
      cases hb : (E.P.info? el).isSome with
      | false => rw [hb] at e; cases e
      | true =>
        rw [hb] at e; simp only [cond_true] at e
        obtain ⟨ie, hie⟩ := Option.isSome_iff_exists.1 hb
        obtain ⟨ns, hfill, rn⟩ := buildP_fill (h := h) (θ := θ) (place := fun i => some (i * E.P.cellsOf el, E.P.cellsOf el)) (fun i cs x cs' vs u ef r rx => by
          obtain ⟨q1, q2, q3⟩ := storeC_put r rx ef
          exact ⟨_, _, rfl, q1, q2, q3⟩) e rz hm hr
        refine ⟨.agg ns.toArray, ?_, .agg _ _ rn⟩
        rw [Array.toArray_toList] at hfill
        simp only [Instr.build, Sem.run_bind, hzr, Result.andThen_ok, run_underlying hu, run_sizeOf' hie w, hfill, List.toList_toArray, Sem.run_pure]
    · cases e
end ops
end Go.Proofs.YtchljgmcempedaaGreatDoor
