/- Rounds; loops with open records: sound (nothing is claimed here). -/
import Derived.Test.YtchljgmcempedaaDoorSh30
import Derived.RangeFuncRecord
set_option linter.unusedVariables false
set_option linter.unusedSimpArgs false
namespace Go.Proofs.YtchljgmcempedaaDoor
open Go Go.RowKit

section lp
variable {E : Env} {n0 : Nat} {w0 : World} {h0 h : Hp} {θ : Th} {M : Mem} {Fr : Nat → Prop} {w : World}
theorem below_putObj {B : Nat} {w : World} {r : Nat} {o : Obj} (h : B ≤ r) : Below B w (w.putObj r o) :=
  ⟨rfl, rfl, rfl, by simp, fun k hk => World.putObj_heap_other (by omega)⟩
/-- an open record: what lies there; what another state of it is -/
theorem lp_at (I : Inv E n0 w0 h0 h θ M Fr w) {key : Nat} {T : List SV} {ps : Array Tmp} {as bd : Code} {st : LoopState} {pend : Option Code} (e : M key = some (.lp T ps as bd st pend)) :
    ∃ id rec, θ key = some (.func (.yield id) rec.tmps #[], some id) ∧ n0 ≤ id ∧ w.heap[id]? = some (.loop rec) ∧ rec.state = st ∧ rec.pending = pend ∧ rec.params = ps ∧ rec.assign = as ∧ rec.body = bd ∧ RepL h θ T rec.tmps.toList ∧
      ∀ st' pend', Inv E n0 w0 h0 h θ (M.set key (.lp T ps as bd st' pend')) Fr (w.putObj id (.loop { rec with state := st', pending := pend' })) := by
  obtain ⟨hd, e1, id, rec, q1, q2, q3, q4, q5, q6, q7, q8, q9, q10⟩ := I.blk key _ e
  subst q1
  have hlt : id < w.heap.size := (Array.getElem?_eq_some_iff.1 q4).1
  refine ⟨id, rec, e1, q2, q4, q5, q6, q7, q8, q9, q10, fun st' pend' => ?_⟩
  refine I.upd e (fun _ _ q => by cases q) (fun _ _ q => by cases q) e1 (below_putObj q2) World.putObj_size (fun i hi => World.putObj_heap_other hi) ?_
  exact ⟨id, { rec with state := st', pending := pend' }, rfl, q2, q3, World.putObj_heap_same hlt, rfl, rfl, q7, q8, q9, q10⟩
theorem putPs_ok : ∀ {n : Nat} {ps : List Nat} {vs : List SV} {us : List Value} {T T' : Tmps} {tmps : Array Value}, putPs n T ps vs = some T' → RepT h θ T tmps → RepL h θ vs us → tmps.size = n →
    ps.length = us.length ∧ RepT h θ T' ((ps.zip us).foldl (fun tmps (x : Nat × Value) => tmps.setIfInBounds x.1 x.2) tmps) ∧ ((ps.zip us).foldl (fun tmps (x : Nat × Value) => tmps.setIfInBounds x.1 x.2) tmps).size = n
  | n, [], [], us, T, T', tmps, e, hT, r, hn => by
    rw [r.nil_inv]; cases e; exact ⟨rfl, hT, hn⟩
  | n, [], _ :: _, us, T, T', tmps, e, hT, r, hn => by cases e
  | n, _ :: _, [], us, T, T', tmps, e, hT, r, hn => by cases e
  | n, p :: ps, v :: vs, us, T, T', tmps, e, hT, r, hn => by
    obtain ⟨u, us', rfl, r1, r2⟩ := r.cons_inv
    simp only [putPs] at e
    cases hb : Nat.blt p n with
    | false => rw [hb] at e; cases e
    | true =>
      rw [hb] at e
      have hp : p < n := by rw [Nat.blt_eq] at hb; exact hb
      obtain ⟨k1, k2, k3⟩ := putPs_ok (n := n) (tmps := tmps.setIfInBounds p u) e (fun t => by
        simp only [Tmps.put]
        by_cases ht : t = p
        · subst ht
          rw [Nat.beq_refl, cond_true, Array.getD_eq_getD_getElem?, Array.getElem?_setIfInBounds_self_of_lt (by omega)]
          exact r1
        · rw [beq_ne ht, cond_false, Array.getD_eq_getD_getElem?, Array.getElem?_setIfInBounds_ne (Ne.symm ht), ← Array.getD_eq_getD_getElem?]
          exact hT t) r2 (by simpa using hn)
      exact ⟨by simp [k1], k2, k3⟩
theorem zip_foldl (ps : Array Tmp) (us : List Value) (tmps : Array Value) : (ps.zip us.toArray).foldl (fun tmps (t, a) => tmps.setIfInBounds t a) tmps = (ps.toList.zip us).foldl (fun tmps (x : Nat × Value) => tmps.setIfInBounds x.1 x.2) tmps := by
  rw [← Array.foldl_toList]
  simp
/-- a round, as its hook says -/
theorem hooksI_ok (ok : EnvOk E) (n : Nat) (G : Goal) : HooksOk E n0 w0 h0 (fun t => t.holds G) (hooksI E n) :=
  ⟨(call_ok (code_ok ok n)).call, fun key args M κ K Kp e h θ w us id ts I ru et => by
    have e : (evRound E n key args M κ K).holds G := e
    unfold evRound at e
    split at e
    · rename_i T ps as bd hM
      split at e
      · rename_i T1 hT1
        obtain ⟨id', rec, f1, f2, f3, f4, f5, f6, f7, f8, f9, _⟩ := lp_at I hM
        rw [et] at f1
        have hid : id' = id := by simp only [Option.some.injEq, Prod.mk.injEq] at f1; exact f1.2.symm
        subst hid
        subst f6 f7 f8
        have hlen : rec.tmps.size = T.length := by
          have := repL_length f9
          simpa using this
        have hT0 : RepT h θ (initT T) rec.tmps := by
          have := initT_rep 0 f9
          simpa using this
        obtain ⟨g1, g2, g3⟩ := putPs_ok hT1 hT0 ru hlen
        refine ⟨rec.fn, _, rec.assign, rec.body, run_yield f3 (by simpa using g1.symm), ?_⟩
        rw [zip_foldl]
        refine roundIn_of_wpIn (F := Fence.wide) trivial ?_
        refine codeR_ok ok (some id') n rec.assign ⟨T1, M, κ, T.length⟩ _ { tmps := _, defers := [] } w h θ _ ⟨I, g2, g3⟩ e fun ex s1 a1 w1 h1 θ1 R1 L1 e1 => ?_
        cases ex with
        | exit i => exact e1.elim
        | ret => exact e1.elim
        | normal =>
          simp only at e1
          split at e1
          · rename_i T2 ps2 as2 bd2 hM2
            obtain ⟨id2, rec2, k1, k2, k3, k4, k5, k6, k7, k8, k9, k10⟩ := lp_at R1.inv hM2
            have hid : id2 = id' := by
              rw [L1.ht _ _ et] at k1; simp only [Option.some.injEq, Prod.mk.injEq] at k1; exact k1.2.symm
            subst hid
            refine ⟨_, run_beginRound k3 k4, ?_⟩
            have hI := k10 .busy none
            rw [show ({ rec2 with state := .busy, pending := none } : Loop) = { rec2 with state := .busy } from by rw [← k5]] at hI
            refine codeR_ok ok (some id2) n rec.body ⟨s1.T, s1.M.set key (.lp T2 ps2 as2 bd2 .busy none), s1.κ, s1.n⟩ _ a1 _ h1 θ1 _ ⟨hI, R1.tmps, R1.size⟩ e1 fun ex2 s2 a2 w2 h2 θ2 R2 L2 e2 => ?_
            unfold endR at e2
            split at e2
            · rename_i T3 ps3 as3 bd3 st3 pend3 hM3
              obtain ⟨id3, rec3, m1, m2, m3, m4, m5, m6, m7, m8, m9, m10⟩ := lp_at R2.inv hM3
              have hid : id3 = id2 := by
                rw [L2.ht _ _ (L1.ht _ _ et)] at m1; simp only [Option.some.injEq, Prod.mk.injEq] at m1; exact m1.2.symm
              subst hid
              have hh : h.le h2 := L1.hh.trans L2.hh
              have ht : θ.le θ2 := L1.ht.trans L2.ht
              have hκ : κ ≤ s2.κ := Nat.le_trans L1.κ L2.κ
              cases ex2 with
              | normal => exact ⟨_, _, run_endRound none m3, .bool true, .b true, _, _, h2, θ2, .inl ⟨rfl, e2⟩, hh, ht, hκ, m10 .ready none, .b true⟩
              | ret => exact ⟨_, _, run_endRound (some .ret) m3, .bool false, .b false, _, _, h2, θ2, .inl ⟨rfl, e2⟩, hh, ht, hκ, m10 .done (some .ret), .b false⟩
              | exit i => exact ⟨_, _, run_endRound (some (.exit i)) m3, .bool false, .b false, _, _, h2, θ2, .inl ⟨rfl, e2⟩, hh, ht, hκ, m10 .done (some (.exit i)), .b false⟩
            · exact e2.elim
          · exact e1.elim
      · exact e.elim
    · exact e.elim⟩

/-- the real blocks behind keys -/
def DRel (θ : Th) (D : List Nat) (ids : List Hd) : Prop := D.length = ids.length ∧ ∀ (j k : Nat), D[j]? = some k → ∃ hd : Hd, ids[j]? = some hd ∧ θ k = some hd
theorem DRel.mono {θ θ' : Th} {D : List Nat} {ids : List Hd} (d : DRel θ D ids) (ht : θ.le θ') : DRel θ' D ids := ⟨d.1, fun (j k : Nat) (hk : D[j]? = some k) => by
  obtain ⟨hd, h1, h2⟩ := d.2 j k hk
  exact ⟨hd, h1, ht _ _ h2⟩⟩
theorem keysD_len {s : St} {D : List Nat} : ∀ {ts ks : List Nat}, keysD s D ts = some ks → ks.length = ts.length
  | [], ks, e => by cases e; rfl
  | t :: ts, ks, e => by
    simp only [keysD] at e
    obtain ⟨k, _, q2⟩ := Option.bind_eq_some_iff.1 e
    obtain ⟨ks', q3, rfl⟩ := Option.map_eq_some_iff.1 q2
    simp [keysD_len q3]
theorem canonD_ok {L : LoopSpec} {s : St} {a : Act} {D : List Nat} {ids : List Hd} {vs : List SV} {bs : List Blk} (R : SRel E n0 w0 h0 h θ s a w) (d : DRel θ D ids) (e : canonD L s D = some (vs, bs)) : ∃ θ', SRel E n0 w0 h0 h θ' (absD L vs bs D.length s.n) a w ∧ DRel θ' (shD L.keys.length D.length) ids := by
  unfold canonD at e
  obtain ⟨ks, q1, q2⟩ := Option.bind_eq_some_iff.1 e
  cases hn : nodupK (ks ++ D) with
  | false => rw [hn] at q2; cases q2
  | true =>
    rw [hn] at q2; simp only [cond_true] at q2
    obtain ⟨vs', q3, q4⟩ := Option.bind_eq_some_iff.1 q2
    obtain ⟨bs', q5, q6⟩ := Option.map_eq_some_iff.1 q4
    cases q6
    have hlen := keysD_len q1
    refine ⟨thK (ks ++ D) θ, ⟨⟨R.inv.agree, fun k b hb => ?_, fun k k' b b' id v v' hb hb' l l' t t' => ?_, fun k hk => ?_, R.inv.below, R.inv.n0le, R.inv.hle, R.inv.hold, R.inv.glob⟩, getT_rep R.tmps q3, R.size⟩, ⟨by simp [shD, d.1], fun (j k : Nat) (hk : (shD L.keys.length D.length)[j]? = some k) => ?_⟩⟩
    · obtain ⟨k0, b0, c1, c2, c3⟩ := getM_some q5 hb
      obtain ⟨hd, d1, d2⟩ := R.inv.blk k0 b0 c2
      exact ⟨hd, by simp only [thK, c1]; exact d1, renB_ok c3 d2⟩
    · obtain ⟨k0, b0, c1, c2, c3⟩ := getM_some q5 hb
      obtain ⟨k1, b1, d1, d2, d3⟩ := getM_some q5 hb'
      simp only [thK, c1] at t
      simp only [thK, d1] at t'
      have := R.inv.inj k0 k1 b0 b1 id v v' c2 d2 (renB_live c3 l) (renB_live d3 l') t t'
      subst this
      exact nodupK_inj hn c1 d1
    · have : (ks ++ D)[k]? = none := List.getElem?_eq_none (by simp only [absD] at hk; simp; omega)
      simp only [thK, this]
    · unfold shD at hk
      rw [List.getElem?_map] at hk
      by_cases hj : j < D.length
      · rw [List.getElem?_range hj] at hk
        cases hk
        obtain ⟨hd, h1, h2⟩ := d.2 j _ (List.getElem?_eq_getElem hj)
        refine ⟨hd, h1, ?_⟩
        have hg : (ks ++ D)[L.keys.length + j]? = some D[j] := by
          rw [← hlen, List.getElem?_append_right (by omega), Nat.add_sub_cancel_left, List.getElem?_eq_getElem hj]
        simp only [thK, hg]; exact h2
      · rw [List.getElem?_eq_none (by simpa using hj)] at hk; cases hk
end lp
end Go.Proofs.YtchljgmcempedaaDoor
