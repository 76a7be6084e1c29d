/- Each operation of the machine does what the evaluator says: stores, new blocks, structs (nothing is claimed here). -/
import Derived.Test.YtchljgmcempedaaGreatDoorSh5
set_option linter.unusedVariables false
set_option linter.unusedSimpArgs false
namespace Go.Proofs.YtchljgmcempedaaGreatDoor
open Go Go.RowKit

theorem take_mid {α : Type} (p v r : List α) (k : Nat) (hk : k ≤ v.length) : (p ++ v ++ r).take (p.length + k) = p ++ v.take k := by
  rw [List.append_assoc, List.take_append, List.take_of_length_le (by omega), Nat.add_sub_cancel_left, List.take_append, Nat.sub_eq_zero_of_le hk]
  simp
theorem drop_mid {α : Type} (p v r : List α) (k : Nat) (hk : k ≤ v.length) : (p ++ v ++ r).drop (p.length + k) = v.drop k ++ r := by
  rw [List.append_assoc, List.drop_append, List.drop_of_length_le (by omega), Nat.add_sub_cancel_left, List.drop_append, Nat.sub_eq_zero_of_le hk]
  simp
theorem set_eq_mid {α : Type} (l : List α) (i : Nat) (x : α) (h : i < l.length) : l.set i x = l.take i ++ [x] ++ l.drop (i + 1) := by
  rw [List.set_eq_take_append_cons_drop]; simp [h]
theorem setRow_below {w : World} {n0 id : Nat} {cs : Array Value} (h : n0 ≤ id) : Below n0 w (w.setRow id cs) :=
  ⟨rfl, rfl, rfl, by simp [World.setRow], fun k hk => by simp only [World.setRow, Array.getElem?_modify]; rw [if_neg (by omega)]⟩
theorem setRow_size (w : World) (id : Nat) (cs : Array Value) : (w.setRow id cs).heap.size = w.heap.size := by simp [World.setRow]
theorem setRow_other (w : World) (id : Nat) (cs : Array Value) (i : Nat) (h : i ≠ id) : (w.setRow id cs).heap[i]? = w.heap[i]? := by
  simp only [World.setRow, Array.getElem?_modify]; rw [if_neg (by omega)]

section ops
variable {E : Env} {n0 : Nat} {w0 : World} {h0 h : Hp} {θ : Th} {M : Mem} {Fr : Nat → Prop} {κ : Nat} {w : World}

theorem isCell_cells {x : SV} {u : Value} (c : isCell x = true) (r : Rep h θ x u) : u.cells = #[u] := by
  have := isCell_one c r
  cases u <;> first | rfl | simp [Value.oneCell'] at this

theorem run_storeVar' {P : Program} {t : TypeId} {i : TypeInfo} {a : Addr} {v : Value} {w : World} (hi : P.info? t = some i) (hs : v.cells.size = P.cellsOf t) :
    (storeVar t a v).run P w = (storeCells a v.cells.toList).run P w := by
  simp [storeVar, run_sizeOf' hi, hs]
theorem run_storeVar_cells {t : TypeId} {cs cs' : List SV} {pre vs rest : List Value} {id off ix n : Nat} {x : SV} {u : Value} {ty : TypeId}
    (hh : w.heap[id]? = some (.cells (pre ++ vs ++ rest).toArray ty (0, 0))) (rc : RepC h θ cs vs) (rx : Rep h θ x u) (e : storeC E t cs off ix n x = some cs') (hi : ix < n) :
    ∃ ns, (storeVar t ⟨id, pre.length + (ix + off), none⟩ u).run E.P w = .ok () (w.setRow id (pre ++ ns ++ rest).toArray) ∧ RepC h θ cs' ns ∧ ns.length = vs.length := by
  have one : isCell x = true → (bif isCell x && Nat.beq (sizeT E t) 1 then setC cs off ix n x else none) = some cs' → ∃ ns, (storeVar t ⟨id, pre.length + (ix + off), none⟩ u).run E.P w = .ok () (w.setRow id (pre ++ ns ++ rest).toArray) ∧ RepC h θ cs' ns ∧ ns.length = vs.length := fun c e => by
    rw [c, Bool.true_and] at e
    cases hs : Nat.beq (sizeT E t) 1 with
    | false => rw [hs] at e; cases e
    | true =>
      rw [hs] at e; simp only [cond_true] at e
      have hs := Nat.eq_of_beq_eq_true hs
      obtain ⟨r1, hlt⟩ := rc.set e hi c rx
      refine ⟨vs.set (ix + off) u, ?_, r1, by simp⟩
      have hinfo : ∃ i, E.P.info? t = some i := by
        cases hq : E.P.info? t with
        | none => simp [sizeT, Program.cellsOf, hq] at hs
        | some i => exact ⟨i, rfl⟩
      obtain ⟨i, hinfo⟩ := hinfo
      have hst := run_storeCells_at E.P id (pre.length + (ix + off)) ty [u] 0 _ w hh (by simp; omega) (by simpa using isCell_one c rx)
      rw [run_storeVar' hinfo (by rw [isCell_cells c rx]; exact hs.symm), isCell_cells c rx, show (#[u] : Array Value).toList = [u] from rfl, hst]
      congr 3
      simp only [Nat.add_zero, List.length_singleton, List.toList_toArray]
      rw [take_mid _ _ _ _ (by omega), Nat.add_assoc, drop_mid _ _ _ _ (by omega), set_eq_mid _ _ _ hlt]
      simp [List.append_assoc]
  cases rx with
  | agg new us rn =>
    simp only [storeC] at e
    cases hb : (Nat.beq n 1 && (Nat.blt 0 (sizeT E t) && Nat.beq (sizeC new) (sizeT E t))) with
    | false => rw [hb] at e; cases e
    | true =>
      rw [hb] at e; simp only [cond_true] at e
      simp only [Bool.and_eq_true] at hb
      obtain rfl := Nat.eq_of_beq_eq_true hb.1
      have hpos := blt_lt hb.2.1
      have hsz := Nat.eq_of_beq_eq_true hb.2.2
      have hl := rn.len
      obtain ⟨r1, hlt⟩ := rc.put e rn (by omega)
      obtain rfl : ix = 0 := by omega
      refine ⟨_, ?_, r1, by simp; omega⟩
      have hinfo : ∃ i, E.P.info? t = some i := by
        cases hq : E.P.info? t with
        | none => simp [sizeT, Program.cellsOf, hq] at hpos
        | some i => exact ⟨i, rfl⟩
      obtain ⟨i, hinfo⟩ := hinfo
      have hst := run_storeCells_at E.P id (pre.length + (0 + off)) ty us 0 _ w hh (by simp; omega) rn.cells_one
      rw [run_storeVar' hinfo (by simp only [Value.cells, List.size_toArray]; have : E.P.cellsOf t = sizeT E t := rfl; omega)]
      rw [show (Value.agg us.toArray).cells.toList = us from rfl, hst]
      congr 3
      simp only [Nat.add_zero, List.toList_toArray, Nat.zero_add]
      rw [take_mid _ _ _ _ (by omega), Nat.add_assoc, drop_mid _ _ _ _ (by omega)]
      have : us.length = sizeT E t := by omega
      simp [List.append_assoc, this]
  | v _ o =>
    refine one ?_ (by simpa only [storeC] using e)
    cases h1 : isCell (SV.v u) with
    | true => rfl
    | false => simp [storeC, h1] at e
  | undef => simp [storeC, isCell] at e
  | junk x => simp [storeC, isCell] at e
  | tup ss vs r => simp [storeC, isCell] at e
  | b q => exact one rfl (by simpa only [storeC] using e)
  | rdnil τ a c => exact one rfl (by simpa only [storeC] using e)
  | rd τ l a c vals h1 h2 h3 h4 h5 => exact one rfl (by simpa only [storeC] using e)
  | rdx τ l a n r => exact one rfl (by simpa only [storeC] using e)
  | own k a n c o e' => exact one rfl (by simpa only [storeC] using e)
  | loc k off ix n id e' l => exact one rfl (by simpa only [storeC] using e)
  | gptr g off ix n l => exact one rfl (by simpa only [storeC] using e)
  | rptr τ l i off a c r l' => exact one rfl (by simpa only [storeC] using e)
  | optr k sz i off id n c e' l => exact one rfl (by simpa only [storeC] using e)
  | fn f fs cs' xs ys r1 r2 => exact one rfl (by simpa only [storeC] using e)
  | map k id e' => exact one rfl (by simpa only [storeC] using e)
  | cs k n sz id e' l => exact one rfl (by simpa only [storeC] using e)
  | pp cs' off ix n id vs ty fz e' r' l => exact one rfl (by simpa only [storeC] using e)
  | yld k id e' => exact one rfl (by simpa only [storeC] using e)
  | iter k id e' => exact one rfl (by simpa only [storeC] using e)
  | win k sz lo n c a o e' l => exact one rfl (by simpa only [storeC] using e)

/-! decoding -/
theorem rd_of_bytes {s : SV} {l : List Int} {v : Value} (e : bytesS s = some l) (r : Rep h θ s v) : Rep h θ (.rd .u8 l) v := by
  unfold bytesS at e; split at e <;> cases e
  · exact r
  · cases r; assumption
  · cases r; exact .rdnil _ _ _
theorem rd_of_ints {s : SV} {l : List Int} {v : Value} (e : intsS s = some l) (r : Rep h θ s v) : Rep h θ (.rd .i64 l) v := by
  unfold intsS at e; split at e <;> cases e
  · exact r
  · cases r; assumption
  · cases r; exact .rdnil _ _ _
theorem rd_of_events {s : SV} {l : List PEvent} {v : Value} (e : eventsS s = some l) (r : Rep h θ s v) : Rep h θ (.rd .event l) v := by
  unfold eventsS at e; split at e <;> cases e
  · exact r
  · cases r; assumption
  · cases r; exact .rdnil _ _ _
theorem rd_of_guests {s : SV} {l : List PGuest} {v : Value} (e : guestsS s = some l) (r : Rep h θ s v) : Rep h θ (.rd .guest l) v := by
  unfold guestsS at e; split at e <;> cases e
  · exact r
  · cases r; assumption
  · cases r; exact .rdnil _ _ _
theorem rd_of_vcpus {s : SV} {l : List PVcpu} {v : Value} (e : vcpusS s = some l) (r : Rep h θ s v) : Rep h θ (.rd .vcpu l) v := by
  unfold vcpusS at e; split at e <;> cases e
  · exact r
  · cases r; assumption
  · cases r; exact .rdnil _ _ _
theorem v_of_bool {s : SV} {q : Bool} {v : Value} (e : boolS s = some q) (r : Rep h θ s v) : v = .bool q ∧ Rep h θ (svB q) v := by
  unfold boolS at e; split at e <;> cases e
  · cases r; exact ⟨rfl, .v _ trivial⟩
  · cases r; exact ⟨rfl, .v _ trivial⟩
theorem RepC.one_inv {s : SV} {ss : List SV} {vs : List Value} (r : RepC h θ (s :: ss) vs) (na : ∀ k n l, s ≠ .arr k n l) : ∃ v vs', vs = v :: vs' ∧ isCell s = true ∧ Rep h θ s v ∧ RepC h θ ss vs' := by
  rcases r.inv with x | ⟨k, n, l, _, rfl, _⟩
  · exact x
  · exact absurd rfl (na k n l)
theorem bytes_na {s : SV} {l : List Int} (e : bytesS s = some l) : ∀ k n l, s ≠ .arr k n l := fun k n l q => by subst q; cases e
theorem bool_na {s : SV} {l : Bool} (e : boolS s = some l) : ∀ k n l, s ≠ .arr k n l := fun k n l q => by subst q; cases e
theorem events_na {s : SV} {l : List PEvent} (e : eventsS s = some l) : ∀ k n l, s ≠ .arr k n l := fun k n l q => by subst q; cases e
theorem ints_na {s : SV} {l : List Int} (e : intsS s = some l) : ∀ k n l, s ≠ .arr k n l := fun k n l q => by subst q; cases e
theorem RepC.swap {s s' : SV} {ss ss' : List SV} {vs : List Value} (r : RepC h θ (s :: ss) vs) (na : ∀ k n l, s ≠ .arr k n l) (c : isCell s' = true) (one : ∀ v, Rep h θ s v → Rep h θ s' v)
    (rest : ∀ vs, RepC h θ ss vs → RepC h θ ss' vs) : RepC h θ (s' :: ss') vs := by
  obtain ⟨v, vs', rfl, _, rv, rs⟩ := r.one_inv na
  exact .cell _ _ _ _ c (one v rv) (rest _ rs)
theorem RepC.keep {s : SV} {ss ss' : List SV} {vs : List Value} (r : RepC h θ (s :: ss) vs) (rest : ∀ vs, RepC h θ ss vs → RepC h θ ss' vs) : RepC h θ (s :: ss') vs := by
  rcases r.inv with ⟨v, vs', rfl, c, rv, rs⟩ | ⟨k, n, l, vs', rfl, rfl, hl, hk, rs⟩
  · exact .cell _ _ _ _ c rv (rest _ rs)
  · exact .arr _ _ _ _ _ hl hk (rest _ rs)
theorem decE_rep {τ : ETy} {cs : List SV} {x : τ.T} {vs : List Value} (e : decE τ cs = some x) (r : RepC h θ cs vs) : RepC h θ (encE τ x) vs := by
  unfold decE at e
  split at e
  · cases e; exact r
  · cases e; exact r
  · cases e; exact r
  · cases e; exact r
  · unfold decEvent at e; split at e <;> cases e; exact r
  · unfold decTrap at e; split at e <;> cases e; exact r
  · unfold decInstr at e; split at e <;> cases e; exact r
  · unfold decVcpu at e; split at e
    · rename_i rg pc c o hb d l
      cases h1 : bytesS o with
      | none => rw [h1] at e; cases e
      | some o' =>
        rw [h1] at e; simp only [Option.bind_some] at e
        cases h2 : boolS hb with
        | none => rw [h2] at e; cases e
        | some q =>
          rw [h2] at e; simp only [Option.bind_some] at e
          cases h3 : eventsS l with
          | none => rw [h3] at e; cases e
          | some l' =>
            rw [h3] at e; cases e
            refine r.keep fun _ r => r.keep fun _ r => r.keep fun _ r => ?_
            refine r.swap (bytes_na h1) rfl (fun v rv => rd_of_bytes h1 rv) fun _ r => ?_
            refine r.swap (bool_na h2) rfl (fun v rv => (v_of_bool h2 rv).2) fun _ r => r.keep fun _ r => ?_
            exact r.swap (events_na h3) rfl (fun v rv => rd_of_events h3 rv) fun _ r => r
    · cases e
  · unfold decGuest at e; split at e
    · rename_i a b m rg pc
      cases h1 : bytesS m with
      | none => rw [h1] at e; cases e
      | some o' =>
        rw [h1] at e; cases e
        refine r.keep fun _ r => r.keep fun _ r => ?_
        exact r.swap (bytes_na h1) rfl (fun v rv => rd_of_bytes h1 rv) fun _ r => r
    · cases e
  · rename_i s
    exact r.swap (ints_na e) rfl (fun v rv => rd_of_ints e rv) fun _ r => r
  · rename_i s
    exact r.swap (bool_na e) rfl (fun v rv => (v_of_bool e rv).2) fun _ r => r
  · cases e

/-- the row with one element turned -/
theorem RepC.setE {τ : ETy} {y : τ.T} {ns : List Value} (ry : RepC h θ (encE τ y) ns) : ∀ {l : List τ.T} {vs : List Value} {i : Nat}, RepC h θ (encR τ l) vs → i < l.length →
    RepC h θ (encR τ (l.set i y)) (vs.take (i * szE τ) ++ ns ++ vs.drop (i * szE τ + szE τ))
  | [], vs, i, r, hi => by simp at hi
  | x :: l, vs, i, r, hi => by
    rw [encR_cons] at r
    obtain ⟨r1, r2⟩ := RepC.app_inv r
    rw [szE_enc] at r1 r2
    cases i with
    | zero =>
      simp only [List.set_cons_zero, encR_cons, Nat.zero_mul, List.take_zero, List.nil_append, Nat.zero_add]
      exact ry.append r2
    | succ i =>
      simp only [List.set_cons_succ, encR_cons]
      have q := RepC.setE ry r2 (i := i) (by simpa using hi)
      rw [List.drop_drop] at q
      have e1 : vs.take ((i + 1) * szE τ) = vs.take (szE τ) ++ (vs.drop (szE τ)).take (i * szE τ) := by
        rw [Nat.succ_mul, Nat.add_comm, List.take_add]
      rw [e1, show (i + 1) * szE τ + szE τ = szE τ + (i * szE τ + szE τ) by rw [Nat.succ_mul]; omega]
      simpa [List.append_assoc] using r1.append q

/-- a store through a symbolic pointer -/
theorem store_ok (I : Inv E n0 w0 h0 h θ M Fr w) {t : TypeId} {p x : SV} {u ux : Value} (r : Rep h θ p u) (rx : Rep h θ x ux) {M' : Mem} (e : storeS E M t p x = some M') :
    ∃ w' h', (Instr.storeAt t u ux).run E.P w = .ok () w' ∧ h.le h' ∧ Inv E n0 w0 h0 h' θ M' Fr w' := by
  cases r <;> simp only [storeS] at e <;> first | (cases e; done) | skip
  · rename_i k off ix n id et hi
    cases hM : M k with
    | none => rw [hM] at e; cases e
    | some b =>
      rw [hM] at e
      cases b with
      | cells cs ty =>
        simp only at e
        cases hs : storeC E t cs off ix n x with
        | none => rw [hs] at e; cases e
        | some cs' =>
          rw [hs] at e; cases e
          obtain ⟨hd, e1, r⟩ := I.blk k _ hM
          obtain ⟨id', vs, ty', rfl, g1, g2, hh, rc⟩ := r
          rw [et] at e1
          simp only [Option.some.injEq, Prod.mk.injEq, Value.pointer.injEq, Addr.mk.injEq] at e1
          obtain ⟨-, rfl⟩ := e1
          obtain ⟨ns, hrun, rn, hl⟩ := run_storeVar_cells (pre := []) (rest := []) (by simpa using hh) rc rx hs hi
          simp only [List.length_nil, Nat.zero_add, List.nil_append, List.append_nil] at hrun
          refine ⟨w.setRow id ns.toArray, h, ?_, .refl _, I.upd hM (fun _ _ => by simp) (fun _ _ => by simp) et (setRow_below g1) (setRow_size _ _ _) (fun i hi => setRow_other _ _ _ i hi) ?_⟩
          · simpa [Instr.storeAt, Instr.sureAddr] using hrun
          · exact ⟨id, ns, ty', rfl, g1, g2, by simpa using setRow_heap w id _ _ _ _ hh, rn⟩
      | _ => cases e
  · rename_i k sz i off id n c et hi
    cases hM : M k with
    | none => rw [hM] at e; cases e
    | some b =>
      rw [hM] at e
      cases b with
      | row τ l ty =>
        simp only at e
        cases hb : ((keysA x).elem k || !Nat.beq sz (szE τ)) with
        | true => rw [hb] at e; cases e
        | false =>
          rw [hb] at e; simp only [cond_false] at e
          simp only [Bool.or_eq_false_iff, Bool.not_eq_false'] at hb
          obtain rfl := Nat.eq_of_beq_eq_true hb.2
          have hk : k ∉ keysA x := fun hk => by have := List.elem_eq_true_of_mem hk; rw [hb.1] at this; cases this
          cases hlx : liftA M x with
          | none => rw [hlx] at e; cases e
          | some y =>
            rw [hlx] at e; simp only [Option.bind_some] at e
            cases hs : storeC E t (encE τ (l.getD i (dfE τ))) off 0 1 y with
            | none => rw [hs] at e; cases e
            | some cs =>
              rw [hs] at e; simp only [Option.bind_some] at e
              cases hd : decE τ cs with
              | none => rw [hd] at e; cases e
              | some z =>
                rw [hd] at e; cases e
                obtain ⟨h1, hle, I1⟩ := I.freezeM (keysA x)
                have ry : Rep h1 θ y ux := liftA_rep hlx (rx.mono hle (.refl _)) I1.lies
                have hM1 : freezeM M (keysA x) k = some (.row τ l ty) := by rw [freezeM_eq, if_neg hk, hM]
                obtain ⟨hd', e1, r⟩ := I1.blk k _ hM1
                rw [et] at e1
                simp only [Option.some.injEq] at e1; subst e1
                rcases r with ⟨_, a, ea⟩ | ⟨id', c', vs, rest, ty', ea, g1, g2, hh, rc, g3, g4⟩
                · simp at ea
                · simp only [Prod.mk.injEq, Value.slice.injEq, Option.some.injEq, Addr.mk.injEq] at ea
                  obtain ⟨⟨-, rfl, rfl⟩, rfl⟩ := ea
                  obtain ⟨rx', hx⟩ := rc.elem (j := i) τ (by rw [List.getElem?_eq_getElem hi])
                  have hgd : l.getD i (dfE τ) = l[i] := by rw [List.getD_eq_getElem?_getD, List.getElem?_eq_getElem hi]; rfl
                  rw [hgd] at hs
                  have hpre : (vs.take (i * szE τ)).length = i * szE τ := by simp; omega
                  have hcut : vs ++ rest = vs.take (i * szE τ) ++ (vs.drop (i * szE τ)).take (szE τ) ++ (vs.drop (i * szE τ + szE τ) ++ rest) := by
                    have : vs = vs.take (i * szE τ) ++ ((vs.drop (i * szE τ)).take (szE τ) ++ vs.drop (i * szE τ + szE τ)) := by
                      rw [← List.drop_drop, List.take_append_drop, List.take_append_drop]
                    conv => lhs; rw [this]
                    simp [List.append_assoc]
                  have hh2 := hh
                  rw [hcut] at hh2
                  obtain ⟨ns, hrun, rn, hl⟩ := run_storeVar_cells hh2 rx' ry hs (by omega)
                  rw [hpre, Nat.zero_add] at hrun
                  have hset := (decE_rep hd rn).setE rc hi
                  refine ⟨w.setRow id (vs.take (i * szE τ) ++ ns ++ (vs.drop (i * szE τ + szE τ) ++ rest)).toArray, h1, by simpa [Instr.storeAt, Instr.sureAddr] using hrun, hle,
                    I1.upd hM1 (fun _ _ => by simp) (fun _ _ => by simp) et (setRow_below g1) (setRow_size _ _ _) (fun i hi => setRow_other _ _ _ i hi) (.inr ⟨id, c, _, rest, ty', by simp, g1, g2, ?_, hset, ?_, by simpa using g4.1, by simpa using g4.2⟩)⟩
                  · rw [setRow_heap w id _ _ _ _ hh]; simp [List.append_assoc]
                  · have hlen : ns.length = szE τ := by rw [hl]; simp; omega
                    have : (vs ++ rest).length = vs.length + rest.length := by simp
                    simp only [List.length_append, List.length_take, List.length_drop]
                    omega
      | _ => cases e
end ops
end Go.Proofs.YtchljgmcempedaaGreatDoor
