/- Each operation of the machine does what the evaluator says: append, make, literals of slices (nothing is claimed here). -/
import Derived.Test.YtchljgmcempedaaGreatDoorSh11
set_option linter.unusedVariables false
set_option linter.unusedSimpArgs false
namespace Go.Proofs.YtchljgmcempedaaGreatDoor
open Go Go.RowKit

section ops
variable {E : Env} {n0 : Nat} {w0 : World} {h0 h : Hp} {θ : Th} {M : Mem} {Fr : Nat → Prop} {κ : Nat} {w : World}

theorem elemTy_some {t e : TypeId} {τ : ETy} (q : elemTy E t = some (e, τ)) :
    E.P.underlying t = some (.slice e) ∧ ∃ i z, E.P.info? e = some i ∧ i.zero = some z ∧ z.cells.size = szE τ ∧ E.P.cellsOf e = szE τ ∧ i.bytes = E.P.bytesOf e ∧ 0 < i.bytes ∧ i.bytes ≤ 65536 := by
  unfold elemTy at q
  split at q
  · rename_i e' hu
    split at q
    · rename_i τ' hτ
      split at q
      · rename_i z hz
        split at q
        · rename_i x hx
          cases hb : (Nat.beq (szE τ') (sizeT E e') && (Nat.blt 0 (bytesOfT E e') && Nat.ble (bytesOfT E e') 65536)) with
          | false => rw [hb] at q; cases q
          | true =>
            rw [hb] at q; cases q
            rw [Bool.and_eq_true, Bool.and_eq_true] at hb
            obtain ⟨i, zv, hi, hzv, rz⟩ := zeroC_rep (h := fun _ => none) (θ := Th0) hz
            have hl := (decE_rep hx rz).len
            rw [szE_enc] at hl
            have hbytes : E.P.bytesOf e = i.bytes := by simp [Program.bytesOf, hi]
            refine ⟨hu, i, zv, hi, hzv, by simpa using hl, (Nat.eq_of_beq_eq_true hb.1).symm, hbytes.symm, ?_, ?_⟩
            · rw [← hbytes]; exact blt_lt hb.2.1
            · rw [← hbytes]; exact Nat.le_of_ble_eq_true hb.2.2
        · cases q
      · cases q
    · cases q
  · cases q

/-- the cells of a slice that is read -/
def Cells (E : Env) (h : Hp) (θ : Th) (w : World) (τ : ETy) (l : List τ.T) (u : Value) : Prop :=
  ∃ base c cells, u = .slice base l.length c ∧ l.length ≤ c ∧ l.length ≤ lim ∧ RepC h θ (encR τ l) cells ∧ ∀ w' : World, w'.heap = w.heap → (Builtin.firstCells (szE τ) l.length u).run E.P w' = .ok cells.toArray w'
theorem cells_rd (I : Inv E n0 w0 h0 h θ M Fr w) {τ : ETy} {l : List τ.T} {u : Value} (r : Rep h θ (.rd τ l) u) : Cells E h θ w τ l u := by
  cases r with
  | rdnil _ b c =>
    refine ⟨b, c, [], rfl, Nat.zero_le _, Nat.zero_le _, .nil, fun w' _ => ?_⟩
    cases b <;> simp [Builtin.firstCells, loadCells, loadCellsFrom]
  | rd _ _ a c vals h1 h2 h3 h4 h5 =>
    obtain ⟨ab, ao, as⟩ := a
    simp only at h1; subst h1
    have hlen : ∀ j, j < l.length → (vals j).length = szE τ := fun j hj => by
      have := (h3 j l[j] (List.getElem?_eq_getElem hj)).len
      rw [this, szE_enc]
    have key : ∀ (m : List τ.T) (j0 : Nat), (∀ j x, m[j]? = some x → RepC h θ (encE τ x) (vals (j0 + j)) ∧ j0 + j < l.length) →
        ∃ cells, RepC h θ (encR τ m) cells ∧ cells.length = m.length * szE τ ∧ ∀ i v, cells[i]? = some v → h.cell ab (ao + (j0 * szE τ + i)) = some v := by
      intro m
      induction m with
      | nil => intro j0 _; exact ⟨[], .nil, by simp, by simp⟩
      | cons x m ih =>
        intro j0 hm
        obtain ⟨cells, c1, c2, c3⟩ := ih (j0 + 1) (fun j y e => by
          have := hm (j + 1) y (by simpa using e)
          rwa [show j0 + (j + 1) = j0 + 1 + j by omega] at this)
        obtain ⟨r0, hj0⟩ := hm 0 x rfl
        rw [Nat.add_zero] at r0 hj0
        have hl0 := hlen j0 hj0
        refine ⟨vals j0 ++ cells, by rw [encR_cons]; exact r0.append c1, by simp [c2, hl0, Nat.succ_mul]; omega, fun i v e => ?_⟩
        by_cases hi : i < (vals j0).length
        · rw [List.getElem?_append_left hi] at e
          exact h4 j0 i v hj0 e
        · rw [List.getElem?_append_right (by omega)] at e
          have := c3 _ _ e
          rwa [show ao + ((j0 + 1) * szE τ + (i - (vals j0).length)) = ao + (j0 * szE τ + i) by rw [Nat.succ_mul]; omega] at this
    obtain ⟨cells, c1, c2, c3⟩ := key l 0 (fun j x e => by
      rw [Nat.zero_add]; exact ⟨h3 j x e, (List.getElem?_eq_some_iff.1 e).1⟩)
    refine ⟨_, c, cells, rfl, h2, h5, c1, fun w' hw => ?_⟩
    have hc : ∀ j v, cells[j]? = some v → w'.cell? ((⟨ab, ao, none⟩ : Addr).add j) = some v := fun j v e => by
      rw [addr_add]
      have := cell_of_hp I (c3 j v e)
      simp only [Nat.zero_mul, Nat.zero_add] at this
      simpa [World.cell?, hw] using this
    have := run_loadCells_list (P := E.P) w' _ cells hc
    rw [c2] at this
    simpa [Builtin.firstCells] using this
theorem cells_row (I : Inv E n0 w0 h0 h θ M Fr w) {k : Nat} {τ : ETy} {l : List τ.T} {ty : TypeId} {u : Value} (hM : M k = some (.row τ l ty)) (r : Rep h θ (.own k) u) : Cells E h θ w τ l u := by
  obtain ⟨b, m, c, o, rfl, et⟩ := r.own_inv
  obtain ⟨hd', e1, r1⟩ := I.blk k _ hM
  rw [et] at e1; cases e1
  rcases r1 with ⟨rfl, a, ea⟩ | ⟨id, c', vs, rest, ty', ea, _, _, hh, rc, _, hc, hm⟩
  · cases ea; exact cells_rd I (.rdnil τ _ 0)
  · cases ea
    refine ⟨_, c, vs, rfl, hc, hm, rc, fun w' hw => ?_⟩
    have hl := rc.len
    rw [sizeC_encR] at hl
    have hcell : ∀ j v, vs[j]? = some v → w'.cell? ((⟨id, 0, none⟩ : Addr).add j) = some v := fun j v e => by
      rw [addr_add, Nat.zero_add]
      have := row_cell (w := w) hh j v e
      simpa [World.cell?, hw] using this
    have := run_loadCells_list (P := E.P) w' _ vs hcell
    rw [hl] at this
    simpa [Builtin.firstCells] using this
theorem listOf_cells (I : Inv E n0 w0 h0 h θ M Fr w) {τ : ETy} {x : SV} {lx : List τ.T} {u : Value} (r : Rep h θ x u) (e : listOf M τ x = some lx) : Cells E h θ w τ lx u := by
  unfold listOf at e
  split at e
  · cases e; cases r; exact cells_rd I (.rdnil τ none 0)
  · cases hl : listS M x with
    | none => rw [hl] at e; cases e
    | some p =>
      obtain ⟨σ, l⟩ := p
      rw [hl] at e; simp only [Option.bind_some] at e
      obtain ⟨rfl, rfl⟩ := castL_eq e
      unfold listS at hl
      split at hl
      · cases hl; exact cells_rd I r
      · cases hl
        obtain ⟨b, rfl, r'⟩ := r.rdx_inv
        exact cells_rd I r'
      · rename_i k _
        split at hl
        · rename_i τ' l' ty' hM
          cases hl; exact cells_row I hM r
        · rename_i τ' l' hM
          cases hl
          obtain ⟨b, m, c, o, rfl, et⟩ := r.own_inv
          obtain ⟨hd', e1, r1⟩ := I.blk k _ hM
          rw [et] at e1; cases e1
          exact cells_rd I r1
        · cases hl
      · cases hl

theorem nextcap_le {need c b : Nat} (h : c < need) (hb : b ≤ 65536) (hl : need * b ≤ lim) : Builtin.nextslicecap need c * b ≤ 2 ^ 48 := by
  have h1 : Builtin.nextslicecap need c ≤ need + 512 ∨ Builtin.nextslicecap need c ≤ need + (need + 768) / 4 := by
    unfold Builtin.nextslicecap
    split
    · left; omega
    · split
      · left; omega
      · right
        have grow : ∀ r c, c ≤ need + (need + 768) / 4 → Builtin.growBy need r c ≤ need + (need + 768) / 4 := by
          intro r
          induction r with
          | zero => intro c hc; exact hc
          | succ r ih =>
            intro c hc
            simp only [Builtin.growBy]
            split
            · exact hc
            · exact ih _ (by omega)
        exact grow 4 c (by omega)
  have h2 : Builtin.nextslicecap need c ≤ need + need / 4 + 512 := by omega
  have h3 : (need + need / 4 + 512) * b ≤ 2 ^ 48 := by
    have hq : 4 * (need / 4 * b) ≤ need * b := by
      have : 4 * (need / 4) ≤ need := Nat.mul_div_le need 4
      have := Nat.mul_le_mul_right b this
      rwa [Nat.mul_assoc] at this
    have e : lim = 140737488355328 := rfl
    have h48 : (2 : Nat) ^ 48 = 281474976710656 := rfl
    rw [h48, Nat.add_mul, Nat.add_mul]
    rw [e] at hl
    omega
  exact Nat.le_trans (Nat.mul_le_mul_right b h2) h3

theorem Inv.drawn (I : Inv E n0 w0 h0 h θ M Fr w) (d : Nat) : Inv E n0 w0 h0 h θ M Fr { w with drawn := d } :=
  ⟨I.agree, I.blk, I.inj, I.fresh, ⟨I.below.os, I.below.tape, I.below.output, I.below.size, I.below.block⟩, I.n0le, I.hle, I.hold, I.glob⟩
theorem zeroCells_size (z : Array Value) (n : Nat) : (Builtin.zeroCells z n).size = n * z.size := by simp [Builtin.zeroCells]

/-- append, where the slice must grow -/
theorem run_append_new {sT xT ty e : TypeId} {τ : ETy} {l lx : List τ.T} {us ux : Value} {base : Option Addr} {c : Nat} {i : TypeInfo} {z : Value}
    (hu : E.P.underlying sT = some (.slice e)) (hx : isSliceT E xT = true) (hi : E.P.info? e = some i) (hz : i.zero = some z) (hzs : z.cells.size = szE τ) (hsz : E.P.cellsOf e = szE τ) (hb : 0 < i.bytes ∧ i.bytes ≤ 65536)
    (hus : us = .slice base l.length c) (cs : Cells E h θ w τ l us) (cx : Cells E h θ w τ lx ux) (hgrow : c < l.length + lx.length) (hlim : (l.length + lx.length) * i.bytes ≤ lim) :
    ∃ vs rest cap, RepC h θ (encR τ (l ++ lx)) vs ∧ (vs ++ rest).length = cap * szE τ ∧ l.length + lx.length ≤ cap ∧
      (Builtin.append_ #[sT, xT] ty #[us, ux]).run E.P w = .ok (.slice (some ⟨w.heap.size, 0, none⟩) (l.length + lx.length) cap) { w with drawn := w.drawn + 1, heap := w.heap.push (.cells (vs ++ rest).toArray e) } := by
  obtain ⟨b1, c1, old, e1, g1, g2, r1, f1⟩ := cs
  obtain ⟨b2, c2, new, rfl, g3, g4, r2, f2⟩ := cx
  subst hus
  cases e1
  have hl63 : ((l.length + lx.length : Nat) : Int) ≤ 9223372036854775807 := by
    have : (l.length + lx.length) * 1 ≤ (l.length + lx.length) * i.bytes := Nat.mul_le_mul_left _ hb.1
    have := lim_le
    omega
  have hq : (Question.appendCap (l.length + lx.length) c e).forced = false := rfl
  have hcut : ∃ cap, (Question.appendCap (l.length + lx.length) c e).cut (w.tape w.drawn (.appendCap (l.length + lx.length) c e)) = cap ∧ l.length + lx.length ≤ cap := ⟨_, rfl, by simp [Question.cut]⟩
  obtain ⟨cap, hcap, hle⟩ := hcut
  have h1 := r1.len
  have h2 := r2.len
  rw [sizeC_encR] at h1 h2
  refine ⟨old ++ new, (Builtin.zeroCells z.cells (cap - (l.length + lx.length))).toList, cap, by rw [encR_append]; exact r1.append r2, ?_, hle, ?_⟩
  · simp only [List.length_append, Array.length_toList, zeroCells_size, hzs, h1, h2]
    rw [← Nat.add_mul, ← Nat.add_mul]
    congr 1; omega
  · have hnc := nextcap_le hgrow hb.2 hlim
    have hz0 : (match ((E.P.underlying xT).getD .invalid) with | .int _ => true | _ => false) = false := by
      unfold isSliceT at hx; split at hx
      · rename_i hh; rw [hh]; rfl
      · cases hx
    obtain ⟨ex, hxs⟩ : ∃ ex, E.P.underlying xT = some (.slice ex) := by
      unfold isSliceT at hx; split at hx
      · exact ⟨_, ‹_›⟩
      · cases hx
    have hsz' := run_sizeOf' hi
    have hzv := run_zeroValue' hi hz
    have hw1 : ({ w with drawn := w.drawn + 1 } : World).heap = w.heap := rfl
    have ff1 := f1 _ hw1
    have ff2 := f2 _ hw1
    have hti : ∀ w, (typeInfo e).run E.P w = .ok i w := fun w => by simp [typeInfo, hi]
    have hn1 : ¬ l.length + lx.length ≤ c := by omega
    have hn2 : ¬ (((l.length + lx.length : Nat) : Int) > IntKind.i64.max ∧ (False ∨ i.bytes = 0)) := fun h => by
      rcases h.2 with h | h
      · exact h
      · omega
    have hn3 : ¬ (Builtin.nextslicecap (l.length + lx.length) c * i.bytes > 2 ^ 48) := by omega
    simp only [Builtin.append_, List.getElem?_toArray, List.getElem?_cons_zero, List.getElem?_cons_succ, Sem.run_bind, run_underlying hu, run_underlying hxs, Result.andThen_ok, Sem.run_pure, hsz', Builtin.lenOf, Bool.false_eq_true, if_false, hn1, hti]
    rw [if_neg hn2]
    simp only [Sem.run_bind, hti, Result.andThen_ok]
    rw [if_neg hn3]
    simp only [Sem.run_bind, run_choose, hq, Bool.false_eq_true, if_false, Result.andThen_ok, hcap, hti, run_askRoom, hsz, ff1, Bool.not_false, if_true, ff2, hzv, newRow, run_newObj, Sem.run_pure]
    congr 3
    refine congrArg (fun x => Obj.cells x e (0, 0)) ?_
    apply Array.ext'
    simp [List.append_assoc]

/-- append, where there is room: in a block of the call's own -/
theorem run_append_room {sT xT ty e : TypeId} {τ : ETy} {l lx : List τ.T} {ux : Value} {id c : Nat} {i : TypeInfo} {vs rest : List Value} {bt : TypeId}
    (hu : E.P.underlying sT = some (.slice e)) (hx : isSliceT E xT = true) (hi : E.P.info? e = some i) (hsz : E.P.cellsOf e = szE τ)
    (hh : w.heap[id]? = some (.cells (vs ++ rest).toArray bt (0, 0))) (rv : RepC h θ (encR τ l) vs) (hlen : (vs ++ rest).length = c * szE τ) (cx : Cells E h θ w τ lx ux) (hroom : l.length + lx.length ≤ c) :
    ∃ vs' rest', RepC h θ (encR τ (l ++ lx)) vs' ∧ (vs' ++ rest').length = c * szE τ ∧
      (Builtin.append_ #[sT, xT] ty #[.slice (some ⟨id, 0, none⟩) l.length c, ux]).run E.P w = .ok (.slice (some ⟨id, 0, none⟩) (l.length + lx.length) c) (w.setRow id (vs' ++ rest').toArray) := by
  obtain ⟨b2, c2, new, rfl, g3, g4, r2, f2⟩ := cx
  have h1 := rv.len
  have h2 := r2.len
  rw [sizeC_encR] at h1 h2
  have hcap : l.length * szE τ + lx.length * szE τ ≤ c * szE τ := by rw [← Nat.add_mul]; exact Nat.mul_le_mul_right _ hroom
  have hl2 : (vs ++ rest).length = vs.length + rest.length := List.length_append
  obtain ⟨ex, hxs⟩ : ∃ ex, E.P.underlying xT = some (.slice ex) := by
    unfold isSliceT at hx; split at hx
    · exact ⟨_, ‹_›⟩
    · cases hx
  have hst := run_storeCells_at E.P id (l.length * szE τ) bt new 0 _ w hh (by simp only [List.size_toArray]; omega) r2.cells_one
  have hsz' := run_sizeOf' hi
  refine ⟨vs ++ new, rest.drop new.length, by rw [encR_append]; exact rv.append r2, by simp only [List.length_append, List.length_drop]; omega, ?_⟩
  simp only [Builtin.append_, List.getElem?_toArray, List.getElem?_cons_zero, List.getElem?_cons_succ, Sem.run_bind, run_underlying hu, run_underlying hxs, Result.andThen_ok, Sem.run_pure, hsz', Builtin.lenOf, Bool.false_eq_true, if_false, hsz, Bool.not_false, if_true]
  rw [if_pos hroom]
  simp only [Sem.run_bind, f2 w rfl, Result.andThen_ok, addr_add, Nat.zero_add, List.toList_toArray, hst, Sem.run_pure]
  congr 2
  simp only [Nat.add_zero, List.toList_toArray]
  rw [← h1, List.take_append_of_le_length (Nat.le_refl _), List.take_length, List.drop_append, List.drop_of_length_le (by omega), List.nil_append]
  congr 2
  simp

theorem Cells.own {k : Nat} {τ : ETy} {l : List τ.T} {ty : TypeId} {u : Value} (I : Inv E n0 w0 h0 h θ M Fr w) (hM : M k = some (.row τ l ty)) (r : Rep h θ (.own k) u) : Cells E h θ w τ l u := cells_row I hM r

/-- a grown row becomes the call's own -/
theorem own_new (I : Inv E n0 w0 h0 h θ M Fr w) (f : Fr κ) {τ : ETy} {l : List τ.T} {vs rest : List Value} {cap : Nat} {e ty : TypeId} {s : Sem Next} {out : Out} (d : Nat) (rv : RepC h θ (encR τ l) vs) (hlen : (vs ++ rest).length = cap * szE τ) (hc : l.length ≤ cap) (hm : l.length ≤ lim)
    (hr : s.run E.P w = .ok (.value (.slice (some ⟨w.heap.size, 0, none⟩) l.length cap)) { w with drawn := d, heap := w.heap.push (.cells (vs ++ rest).toArray e) })
    {M' : Mem} (hM : ∀ k b, M' k = some b → M k = some b) (ho : out.mem M κ = M'.set κ (.row τ l ty)) (hv : out.v = .own κ) :
    StepOk E n0 w0 h0 h θ M Fr κ w s out := by
  have I' : Inv E n0 w0 h0 h θ M' Fr { w with drawn := d } := (I.drawn d).less hM (fun _ f => f)
  have tle := Th.le_set (hd := (.slice (some ⟨w.heap.size, 0, none⟩) l.length cap, some w.heap.size)) (I.fresh κ f)
  have hnone : h w.heap.size = none := by
    cases hh : h w.heap.size with
    | none => rfl
    | some o => have := I.old_lt hh; omega
  refine ⟨_, _, _, h, _, hr, .inl rfl, .refl _, tle, ?_, ?_⟩
  · rw [ho]
    exact I'.new f (.cells (vs ++ rest).toArray e) (.row τ l ty) _ (.inr ⟨w.heap.size, cap, vs, rest, e, rfl, I.size, hnone, by simp, rv.mono (.refl _) tle, hlen, hc, hm⟩)
  · rw [hv]
    exact .own κ _ _ _ (some w.heap.size) (if_pos rfl)
theorem own_nil (I : Inv E n0 w0 h0 h θ M Fr w) (f : Fr κ) {τ : ETy} {a : Option Addr} {ty : TypeId} {s : Sem Next} {out : Out}
    (hr : s.run E.P w = .ok (.value (.slice a 0 0)) w) {M' : Mem} (hM : ∀ k b, M' k = some b → M k = some b) (ho : out.mem M κ = M'.set κ (.row τ [] ty)) (hv : out.v = .own κ) :
    StepOk E n0 w0 h0 h θ M Fr κ w s out := by
  have I' : Inv E n0 w0 h0 h θ M' Fr w := I.less hM (fun _ f => f)
  have tle := Th.le_set (hd := ((.slice a 0 0, none) : Hd)) (I.fresh κ f)
  refine ⟨_, _, _, h, _, hr, .inl rfl, .refl _, tle, ?_, ?_⟩
  · rw [ho]
    exact I'.newNil f (.row τ [] ty) _ (.inl ⟨rfl, a, rfl⟩)
  · rw [hv]
    exact .own κ _ _ _ none (if_pos rfl)
/-- append to a slice without room -/
theorem append_grow_ok (I : Inv E n0 w0 h0 h θ M Fr w) (f : Fr κ) {sT xT ty e bt : TypeId} {τ : ETy} {l lx : List τ.T} {us ux : Value} {base : Option Addr} {c : Nat} (he : elemTy E sT = some (e, τ)) (hx : isSliceT E xT = true)
    (hus : us = .slice base l.length c) (cs : Cells E h θ w τ l us) (cx : Cells E h θ w τ lx ux) (hgrow : c < l.length + lx.length) (hlim : (l.length + lx.length) * bytesOfT E e ≤ lim) {out : Out}
    {M' : Mem} (hM : ∀ k b, M' k = some b → M k = some b) (ho : out.mem M κ = M'.set κ (.row τ (l ++ lx) bt)) (hv : out.v = .own κ) :
    StepOk E n0 w0 h0 h θ M Fr κ w (do Pure.pure (.value (← Builtin.append_ #[sT, xT] ty #[us, ux]))) out := by
  obtain ⟨hu, i, z, hi, hz, hzs, hsz, hb, hpos, hle⟩ := elemTy_some he
  have hlim' : (l.length + lx.length) * i.bytes ≤ lim := by rw [hb]; exact hlim
  obtain ⟨vs, rest, cap, rv, hlen, hcap, hr⟩ := run_append_new (ty := ty) hu hx hi hz hzs hsz ⟨hpos, hle⟩ hus cs cx hgrow hlim'
  have hm : (l ++ lx).length ≤ lim := by
    have : (l.length + lx.length) * 1 ≤ (l.length + lx.length) * i.bytes := Nat.mul_le_mul_left _ hpos
    rw [List.length_append]; omega
  refine own_new I f (w.drawn + 1) rv hlen (by rw [List.length_append]; exact hcap) hm (e := e) ?_ hM ho hv
  simp only [Sem.run_bind, hr, Result.andThen_ok, Sem.run_pure, List.length_append]
theorem appendS_ok (I : Inv E n0 w0 h0 h θ M Fr w) (f : Fr κ) {sT xT ty e : TypeId} {τ : ETy} {s : SV} {lx : List τ.T} {us ux : Value} {out : Out} (he : elemTy E sT = some (e, τ)) (hx : isSliceT E xT = true)
    (r : Rep h θ s us) (cx : Cells E h θ w τ lx ux) (q : (appendS E M κ e τ s lx).eval = some out) :
    StepOk E n0 w0 h0 h θ M Fr κ w (do Pure.pure (.value (← Builtin.append_ #[sT, xT] ty #[us, ux]))) out := by
  obtain ⟨hu, i, z, hi, hz, hzs, hsz, hb, hpos, hle⟩ := elemTy_some he
  have nil : ∀ (a : Option Addr) {bt : TypeId} {M' : Mem}, us = .slice a 0 0 → lx.length * bytesOfT E e ≤ lim → (∀ k b, M' k = some b → M k = some b) → out.mem M κ = M'.set κ (.row τ lx bt) → out.v = .own κ →
      StepOk E n0 w0 h0 h θ M Fr κ w (do Pure.pure (.value (← Builtin.append_ #[sT, xT] ty #[us, ux]))) out := fun a bt M' hus hl hM ho hv => by
    subst hus
    have cs : Cells E h θ w τ [] (.slice a 0 0) := cells_rd I (.rdnil τ a 0)
    cases lx with
    | nil =>
      obtain ⟨b2, c2, new, rfl, g3, g4, r2, f2⟩ := cx
      refine own_nil I f (a := a) ?_ hM ho hv
      obtain ⟨ex, hxs⟩ : ∃ ex, E.P.underlying xT = some (.slice ex) := by
        unfold isSliceT at hx; split at hx
        · exact ⟨_, ‹_›⟩
        · cases hx
      have hsz' := run_sizeOf' hi
      have hnew : new = [] := RepC.nil_inv r2
      subst hnew
      have ff := f2 w rfl
      simp only [List.length_nil] at ff
      simp only [Builtin.append_, List.getElem?_toArray, List.getElem?_cons_zero, List.getElem?_cons_succ, Sem.run_bind, run_underlying hu, run_underlying hxs, Result.andThen_ok, Sem.run_pure, hsz', Builtin.lenOf, Bool.false_eq_true, if_false, hsz, Bool.not_false, if_true, List.length_nil]
      cases a <;> simp [ff, storeCells]
    | cons y ys => exact append_grow_ok I f he hx rfl cs cx (by simp) (by simpa using hl) hM ho hv
  unfold appendS at q
  split at q
  · rename_i k
    split at q
    · rename_i σ l bt hM
      split at q
      · rename_i l' hc
        obtain ⟨rfl, rfl⟩ := castL_eq hc
        replace q := need_eval q
        obtain ⟨hl, q⟩ := q
        have hl := Nat.le_of_ble_eq_true hl
        cases q
        have hdel : ∀ j b, M.del k j = some b → M j = some b := fun j b e => by
          by_cases hj : j = k
          · subst hj; rw [Mem.del_same] at e; cases e
          · rwa [Mem.del_ne _ hj] at e
        have cs := cells_row I hM r
        obtain ⟨b, m, c, o, rfl, et⟩ := r.own_inv
        obtain ⟨hd', e1, r1⟩ := I.blk k _ hM
        rw [et] at e1; cases e1
        rcases r1 with ⟨rfl, a, ea⟩ | ⟨id, c', vs, rest, ty', ea, g1, g2, hh, rc, hlen, hc', hm⟩
        · cases ea
          exact nil _ rfl (by simpa using hl) hdel rfl rfl
        · cases ea
          by_cases hroom : l'.length + lx.length ≤ c
          · obtain ⟨vs', rest', rv, hlen', hr⟩ := run_append_room (ty := ty) hu hx hi hsz hh rc hlen cx hroom
            have hm' : (l' ++ lx).length ≤ lim := by
              have : (l'.length + lx.length) * 1 ≤ (l'.length + lx.length) * bytesOfT E e := Nat.mul_le_mul_left _ (by rw [show bytesOfT E e = i.bytes from hb.symm]; exact hpos)
              rw [List.length_append]; omega
            have hset := setRow_heap w id _ (vs' ++ rest').toArray _ _ hh
            refine ⟨.value (.slice (some ⟨id, 0, none⟩) (l'.length + lx.length) c), _, w.setRow id (vs' ++ rest').toArray, h, _, by simp only [Sem.run_bind, hr, Result.andThen_ok, Sem.run_pure], .inl rfl, .refl _, Th.le_set (I.fresh κ f),
              I.move f hM (fun _ _ => by simp) (fun _ _ => by simp) et (v' := .slice (some ⟨id, 0, none⟩) (l'.length + lx.length) c) (setRow_below g1) (setRow_size _ _ _) (fun i hi => setRow_other _ _ _ i hi) ?_, ?_⟩
            · exact .inr ⟨id, c, vs', rest', _, by simp, g1, g2, hset, rv.mono (.refl _) (Th.le_set (I.fresh κ f)), hlen', by rw [List.length_append]; exact hroom, hm'⟩
            · exact .own κ _ _ _ (some id) (if_pos rfl)
          · exact append_grow_ok I f he hx rfl cs cx (by omega) hl hdel rfl rfl
      · cases q
    · cases q
  · replace q := need_eval q
    obtain ⟨hl, q⟩ := q
    have hl := Nat.le_of_ble_eq_true hl
    cases q
    cases r
    exact nil none rfl hl (fun _ _ e => e) rfl rfl
  · rename_i σ l
    obtain ⟨b, rfl, r'⟩ := r.rdx_inv
    split at q
    · rename_i l' hc
      obtain ⟨rfl, rfl⟩ := castL_eq hc
      replace q := need_eval q
      obtain ⟨hne, q⟩ := q
      replace q := need_eval q
      obtain ⟨hl, q⟩ := q
      have hl := Nat.le_of_ble_eq_true hl
      cases q
      cases l' with
      | nil => exact nil b rfl (by simpa using hl) (fun _ _ e => e) rfl rfl
      | cons y ys =>
        have hx0 : lx.length ≠ 0 := fun h0 => by simp [h0] at hne
        exact append_grow_ok I f he hx rfl (cells_rd I r') cx (by simp only [List.length_cons]; omega) hl (fun _ _ e => e) rfl rfl
    · cases q
  · cases q
end ops
end Go.Proofs.YtchljgmcempedaaGreatDoor
