/- Each operation of the machine does what the evaluator says: all of them in one theorem (nothing is claimed here). -/
import Derived.Test.YtchljgmcempedaaGreatDoorSh13
import Derived.MapKept
set_option linter.unusedVariables false
set_option linter.unusedSimpArgs false
namespace Go.Proofs.YtchljgmcempedaaGreatDoor
open Go Go.RowKit

def RepT (h : Hp) (θ : Th) (T : Tmps) (a : Array Value) : Prop := ∀ t, Rep h θ (T t) (a.getD t undef)

section ops
variable {E : Env} {n0 : Nat} {w0 : World} {h0 h : Hp} {θ : Th} {M : Mem} {Fr : Nat → Prop} {κ : Nat} {w : World}

theorem constS_rep (v : Value) : Rep h θ (constS v) v := by
  have other : Rep h θ (bif okB v then .v v else .junk) v := by
    cases hb : okB v with
    | true => exact .v v (okB_ok hb)
    | false => exact .junk v
  cases v with
  | bool q => exact .b q
  | _ => exact other
theorem opd_rep {T : Tmps} {a : Act} (hT : RepT h θ T a.tmps) (x : Operand) : Rep h θ (opd T x) (a.eval x) := by
  cases x with
  | tmp t => exact hT t
  | const v =>
    have other : Rep h θ (bif okB v then .v v else .junk) v := by
      cases hb : okB v with
      | true => exact .v v (okB_ok hb)
      | false => exact .junk v
    cases v with
    | bool q => exact .b q
    | _ => exact other
  | global g => exact .gptr g 0 0 1 (by omega)
  | func f => exact .fn (.func f) [] [] [] [] .nil .nil
theorem opds_rep {T : Tmps} {a : Act} (hT : RepT h θ T a.tmps) : ∀ (l : List Operand), RepL h θ (l.map (opd T)) (l.map a.eval)
  | [] => .nil
  | x :: l => .cons _ _ _ _ (opd_rep hT x) (opds_rep hT l)
theorem opdO_rep {T : Tmps} {a : Act} (hT : RepT h θ T a.tmps) (x : Option Operand) : RepO h θ (x.map (opd T)) (x.map a.eval) := by
  cases x with
  | none => trivial
  | some x => exact opd_rep hT x
theorem parts_rep {T : Tmps} {a : Act} (hT : RepT h θ T a.tmps) (l : List (Nat × Operand)) (j : Nat) (p : Nat × SV) (u : Nat × Value) (hp : (l.map fun p => (p.1, opd T p.2))[j]? = some p) (hu : (l.map fun p => (p.1, a.eval p.2))[j]? = some u) : Rep h θ p.2 u.2 := by
  rw [List.getElem?_map] at hp hu
  cases hl : l[j]? with
  | none => rw [hl] at hp; cases hp
  | some q => rw [hl] at hp hu; cases hp; cases hu; exact opd_rep hT q.2
theorem map_pair (ρ : Operand → Value) (parts : Array (Nat × Operand)) : (parts.map fun (x : Nat × Operand) => (x.1, ρ x.2)) = (parts.toList.map fun p => (p.1, ρ p.2)).toArray := by
  apply Array.ext'; simp
theorem map_opds (ρ : Operand → Value) (l : Array Operand) : l.map ρ = (l.toList.map ρ).toArray := by
  apply Array.ext'; simp

/-- append of zeros to nil -/
theorem run_append_zeros {sT xT ty e : TypeId} {τ : ETy} {i : TypeInfo} {z : Value} {y : τ.T} {n : Int} {k : IntKind}
    (hu : E.P.underlying sT = some (.slice e)) (hxs : E.P.underlying xT = some (.int k)) (hi : E.P.info? e = some i) (hz : i.zero = some z) (hzs : z.cells.size = szE τ) (hsz : E.P.cellsOf e = szE τ) (hb : 0 < i.bytes ∧ i.bytes ≤ 65536)
    (hy : RepC h θ (encE τ y) z.cells.toList) (on : okI .i64 n) (h0n : 0 ≤ n) (hlim : n * i.bytes ≤ (lim : Int)) :
    (n = 0 → (Builtin.append_ #[sT, xT] ty #[.slice none 0 0, .int .i64 n]).run E.P w = .ok (.slice none 0 0) w) ∧
    (0 < n → ∃ vs rest cap, RepC h θ (encR τ (List.replicate n.toNat y)) vs ∧ (vs ++ rest).length = cap * szE τ ∧ n.toNat ≤ cap ∧
      (Builtin.append_ #[sT, xT] ty #[.slice none 0 0, .int .i64 n]).run E.P w = .ok (.slice (some ⟨w.heap.size, 0, none⟩) n.toNat cap) { w with drawn := w.drawn + 1, heap := w.heap.push (.cells (vs ++ rest).toArray e) }) := by
  obtain ⟨m, rfl⟩ := Int.eq_ofNat_of_zero_le h0n
  have hlimN : m * i.bytes ≤ lim := by exact_mod_cast hlim
  have hm63 : (m : Int) ≤ 9223372036854775807 := by
    have : m * 1 ≤ m * i.bytes := Nat.mul_le_mul_left _ hb.1
    have := lim_le
    omega
  have hw : IntKind.i64.wrap (m : Int) = m := by
    simp only [IntKind.wrap, IntKind.bits, IntKind.signed, Bool.true_and, decide_eq_true_eq, Nat.reduceSub, Int.reducePow, ge_iff_le]
    split <;> omega
  have hsz' := run_sizeOf' hi
  have hzv := run_zeroValue' hi hz
  have hti : ∀ w, (typeInfo e).run E.P w = .ok i w := fun w => by simp [typeInfo, hi]
  have hn4 : ¬ ((m : Int) < 0) := by omega
  have hn5 : ¬ ((m : Int) * i.bytes > 2 ^ 48) := by
    have e : lim = 140737488355328 := rfl
    have h48 : (2 : Int) ^ 48 = 281474976710656 := rfl
    rw [h48]
    have : ((m * i.bytes : Nat) : Int) = (m : Int) * i.bytes := by simp
    omega
  refine ⟨fun h => ?_, fun h => ?_⟩
  · have : m = 0 := by omega
    subst this
    simp only [Builtin.append_, List.getElem?_toArray, List.getElem?_cons_zero, List.getElem?_cons_succ, Sem.run_bind, run_underlying hu, run_underlying hxs, Result.andThen_ok, Sem.run_pure, hsz', if_true, asInt, asIntOf]
    simp [hti, go_sem, IntKind.wrap, IntKind.bits, IntKind.signed]
  · have hm : 0 < m := by omega
    have hq : (Question.appendCap (0 + m) 0 e).forced = false := rfl
    have hcut : ∃ cap, (Question.appendCap (0 + m) 0 e).cut (w.tape w.drawn (.appendCap (0 + m) 0 e)) = cap ∧ 0 + m ≤ cap := ⟨_, rfl, by simp [Question.cut]⟩
    obtain ⟨cap, hcap, hle⟩ := hcut
    have hnc := nextcap_le (need := 0 + m) (c := 0) (by omega) hb.2 (by rw [Nat.zero_add]; exact hlimN)
    refine ⟨(List.replicate m z.cells.toList).flatten, (Builtin.zeroCells z.cells (cap - (0 + m))).toList, cap, ?_, ?_, by simp; omega, ?_⟩
    · rw [Int.toNat_natCast, encR_replicate]; exact hy.replicate m
    · simp only [List.length_append, Array.length_toList, zeroCells_size, hzs, List.length_flatten, List.map_replicate, List.sum_replicate_nat]
      rw [← Nat.add_mul]; congr 1; omega
    · have hn1 : ¬ 0 + m ≤ 0 := by omega
      have hn2 : ¬ (((0 + m : Nat) : Int) > IntKind.i64.max ∧ (True ∨ i.bytes = 0)) := fun h => by
        have := h.1
        simp only [show IntKind.i64.max = 9223372036854775807 from rfl] at this
        omega
      have hn3 : ¬ (Builtin.nextslicecap (0 + m) 0 * i.bytes > 2 ^ 48) := by omega
      have hn6 : ¬ (m * szE τ = 0) := by
        have := szE_pos τ
        intro h; rcases Nat.mul_eq_zero.1 h with h | h <;> omega
      have hzc : (Builtin.zeroCells z.cells m).toList = (List.replicate m z.cells.toList).flatten := replicate_zero (by rw [hzs]; exact szE_pos τ) m
      simp only [Builtin.append_, List.getElem?_toArray, List.getElem?_cons_zero, List.getElem?_cons_succ, Sem.run_bind, run_underlying hu, run_underlying hxs, Result.andThen_ok, Sem.run_pure, hsz', if_true, asInt, asIntOf, hw, hti]
      rw [if_neg hn4]
      simp only [Sem.run_bind, hti, Result.andThen_ok, Sem.run_pure]
      rw [if_neg hn5]
      simp only [Sem.run_bind, hti, Result.andThen_ok, Sem.run_pure, Int.toNat_natCast]
      rw [if_neg hn1]
      simp only [Sem.run_bind, hti, Result.andThen_ok]
      rw [if_neg hn2]
      simp only [Sem.run_bind, hti, Result.andThen_ok]
      rw [if_neg hn3]
      simp only [Sem.run_bind, run_choose, hq, Bool.false_eq_true, if_false, Result.andThen_ok, hcap, hti, run_askRoom, Builtin.firstCells, Sem.run_pure, hsz, Bool.not_true]
      rw [if_neg hn6]
      simp only [Sem.run_bind, hzv, Result.andThen_ok, Sem.run_pure, newRow, run_newObj]
      congr 3
      · omega
      · refine congrArg (fun x => Obj.cells x e (0, 0)) ?_
        apply Array.ext'
        simp [hzc]

theorem fc_any (s k : Nat) (a : Option Addr) (n c n' c' : Nat) : Builtin.firstCells s k (.slice a n c) = Builtin.firstCells s k (.slice a n' c') := by cases a <;> rfl
/-- copy into an own row, from an offset on -/
theorem copy_ok (I : Inv E n0 w0 h0 h θ M Fr w) {dT sT ty e : TypeId} {τ : ETy} {k : Nat} {l lx : List τ.T} {bt : TypeId} {base : Option Addr} {c lo : Nat} {o : Option Nat} {ux : Value} {x : SV} (he : elemTy E dT = some (e, τ))
    (hM : M k = some (.row τ l bt)) (et : θ k = some (.slice base l.length c, o)) (hlo : lo ≤ l.length) (hx : srcOf τ x = some lx) (rx : Rep h θ x ux) (d : Option Addr) (hd : d = base.map (·.add (lo * szE τ)) ∨ c = lo) (dc : Nat) :
    StepOk E n0 w0 h0 h θ M Fr κ w (do Pure.pure (.value (← Builtin.copy_ #[dT, sT] ty #[.slice d (l.length - lo) dc, ux]))) (.eff (svI .i64 (min lx.length (l.length - lo) : Nat)) (M.set k (.row τ (l.take lo ++ copyL (l.drop lo) lx) bt))) := by
  obtain ⟨hu, i, z, hi, hz, hzs, hsz, hb, hpos, hle⟩ := elemTy_some he
  have hsz' := run_sizeOf' hi
  have rx' : Rep h θ (.rd τ lx) ux := by
    unfold srcOf at hx
    split at hx
    · obtain ⟨rfl, rfl⟩ := castL_eq hx; exact rx
    · cases hx; cases rx; exact .rdnil _ _ _
    · cases hx
  have hmin : ∀ a b : Nat, Nat.min a b = min a b := fun a b => rfl
  obtain ⟨sb, sc, rfl, hsc, _, _⟩ := rx'.rd_inv
  obtain ⟨m, hm⟩ : ∃ m, m = min lx.length (l.length - lo) := ⟨_, rfl⟩
  rw [← hm]
  have rs := rx'.sub (a := 0) (b := m) (m := sc) (by omega) (by omega) (by omega) (Nat.le_refl _)
  have hsb : (if sc = 0 then sb else sb.map (·.add (0 * szE τ))) = sb := by
    split
    · rfl
    · rw [Nat.zero_mul, map_add_zero]
  rw [List.drop_zero, hsb] at rs
  obtain ⟨b2, c2, cells, e2, g3, g4, r2, f2⟩ := cells_rd I rs
  have hf : (Builtin.firstCells (szE τ) m (.slice sb lx.length sc)).run E.P w = .ok cells.toArray w := by
    have := f2 w rfl
    rw [List.length_take, show min m lx.length = m by omega] at this
    rw [fc_any _ _ _ _ _ (m - 0) (sc - 0)]
    exact this
  have h2 := r2.len
  rw [sizeC_encR, List.length_take, show min m lx.length = m by omega] at h2
  have hrun : ∀ w', (match d with | some a => storeCells a cells | none => (Pure.pure () : Sem Unit)).run E.P w = .ok () w' →
      (do Pure.pure (Next.value (← Builtin.copy_ #[dT, sT] ty #[.slice d (l.length - lo) dc, .slice sb lx.length sc])) : Sem Next).run E.P w = .ok (.value (goInt m)) w' := fun w' hst => by
    cases d with
    | none =>
      cases hst
      simp only [Builtin.copy_, List.getElem?_toArray, List.getElem?_cons_zero, List.getElem?_cons_succ, Sem.run_bind, run_underlying hu, Result.andThen_ok, Builtin.lenOf, Sem.run_pure, hsz', hsz, hmin, ← hm, hf]
    | some a =>
      simp only at hst
      simp only [Builtin.copy_, List.getElem?_toArray, List.getElem?_cons_zero, List.getElem?_cons_succ, Sem.run_bind, run_underlying hu, Result.andThen_ok, Builtin.lenOf, Sem.run_pure, hsz', hsz, hmin, ← hm, hf, List.toList_toArray, hst]
  have hval : Rep h θ (svI .i64 (m : Int)) (goInt m) := .v _ (by
    have := lim_le
    have : l.length ≤ lim := by
      obtain ⟨hd', e1, r1⟩ := I.blk k _ hM
      rcases r1 with ⟨rfl, _⟩ | ⟨_, _, _, _, _, _, _, _, _, _, _, _, hl⟩
      · exact Nat.zero_le _
      · exact hl
    show okI .i64 _
    simp only [okI, show IntKind.i64.min = -9223372036854775808 from rfl, show IntKind.i64.max = 9223372036854775807 from rfl]
    omega)
  obtain ⟨hd', e1, r1⟩ := I.blk k _ hM
  rw [et] at e1; cases e1
  have hlen : (l.take lo ++ copyL (l.drop lo) lx).length = l.length := by
    simp only [copyL, List.length_append, List.length_take, List.length_drop]; omega
  rcases r1 with ⟨rfl, a, ea⟩ | ⟨id, c', vs, rest, ty', ea, g1, g2, hh, rc, hl2, hc', hm'⟩
  · cases ea
    have hl0 : lo = 0 := by simpa using hlo
    subst hl0
    have hm0 : m = 0 := by simp at hm; exact hm
    have hc0 : cells = [] := List.length_eq_zero_iff.1 (by rw [h2, hm0]; omega)
    refine ⟨_, _, w, h, θ, hrun w (by rw [hc0]; cases d <;> simp [storeCells]), .inl rfl, .refl _, .refl _, ?_, hval⟩
    have hsame : M.set k (.row τ (List.take 0 ([] : List τ.T) ++ copyL (List.drop 0 []) lx) bt) = M := by
      funext j
      by_cases hj : j = k
      · subst hj; rw [Mem.set_same, hM]; simp [copyL]
      · rw [Mem.set_ne _ _ hj]
    show Inv E n0 w0 h0 h θ (M.set k _) _ w
    rw [hsame]
    exact I.less (fun _ _ e => e) (fun _ f => f.1)
  · cases ea
    have h1 := rc.len
    rw [sizeC_encR] at h1
    have hml : m ≤ l.length - lo := by omega
    have hoff : lo * szE τ + m * szE τ ≤ l.length * szE τ := by rw [← Nat.add_mul]; exact Nat.mul_le_mul_right _ (by omega)
    have hv2 : (vs ++ rest).length = vs.length + rest.length := List.length_append
    obtain ⟨vs', hvs, rv⟩ : ∃ vs' : List Value, (vs ++ rest).take (lo * szE τ) ++ cells ++ (vs ++ rest).drop (lo * szE τ + cells.length) = vs' ++ rest ∧ RepC h θ (encR τ (l.take lo ++ copyL (l.drop lo) lx)) vs' := by
      refine ⟨vs.take (lo * szE τ) ++ cells ++ vs.drop (lo * szE τ + cells.length), ?_, ?_⟩
      · rw [List.take_append_of_le_length (by omega), List.drop_append_of_le_length (by omega)]; simp
      · have hdec : l.take lo ++ copyL (l.drop lo) lx = l.take lo ++ lx.take m ++ l.drop (lo + m) := by
          simp only [copyL, List.length_drop, List.drop_drop, List.append_assoc]
          congr 2
          · rw [hm]
            by_cases hc : lx.length ≤ l.length - lo
            · rw [List.take_of_length_le (by omega), List.take_of_length_le (by omega)]
            · congr 1; omega
          · rw [hm]
            by_cases hc : lx.length ≤ l.length - lo
            · congr 1; omega
            · rw [List.drop_of_length_le (by omega), List.drop_of_length_le (by omega)]
        rw [hdec, encR_append, encR_append]
        have hl3 : l = l.take lo ++ ((l.drop lo).take m ++ l.drop (lo + m)) := by
          rw [← List.drop_drop, List.take_append_drop, List.take_append_drop]
        have rc' := rc
        rw [hl3, encR_append] at rc'
        have hs1 : sizeC (encR τ (l.take lo)) = lo * szE τ := by rw [sizeC_encR, List.length_take, show min lo l.length = lo by omega]
        have hs2 : sizeC (encR τ ((l.drop lo).take m)) = m * szE τ := by rw [sizeC_encR, List.length_take, List.length_drop, show min m (l.length - lo) = m by omega]
        obtain ⟨q1, q2⟩ := RepC.app_inv rc'
        rw [hs1] at q1 q2
        rw [encR_append] at q2
        obtain ⟨q3, q4⟩ := RepC.app_inv q2
        rw [hs2] at q3 q4
        rw [List.drop_drop] at q4
        rw [h2]
        exact (q1.append r2).append q4
    have hst : (match d with | some a => storeCells a cells | none => (Pure.pure () : Sem Unit)).run E.P w = .ok () (w.setRow id (vs' ++ rest).toArray) := by
      have key := run_storeCells_at E.P id (lo * szE τ) ty' cells 0 _ w hh (by simp only [List.size_toArray]; omega) r2.cells_one
      simp only [Nat.add_zero, List.toList_toArray] at key
      rw [hvs] at key
      by_cases hc0 : cells = []
      · subst hc0
        have : (w.setRow id (vs' ++ rest).toArray) = w := by
          have e : vs' ++ rest = vs ++ rest := by rw [← hvs]; simp
          rw [e]; exact setRow_self w id _ _ _ hh
        rw [this]
        cases d <;> simp [storeCells]
      · rcases hd with rfl | rfl
        · simp only [Option.map_some, addr_add, Nat.zero_add]; exact key
        · exfalso; apply hc0
          apply List.length_eq_zero_iff.1
          rw [h2, show m = 0 by omega, Nat.zero_mul]
    refine ⟨_, _, _, h, θ, hrun _ hst, .inl rfl, .refl _, .refl _, ?_, hval⟩
    have hset := setRow_heap w id _ (vs' ++ rest).toArray _ _ hh
    have hlv : (vs' ++ rest).length = c * szE τ := by
      have := congrArg List.length hvs
      simp only [List.length_append, List.length_take, List.length_drop] at this hl2 ⊢
      omega
    have hb : BlkOk h θ (w.setRow id (vs' ++ rest).toArray) n0 (.row τ (l.take lo ++ copyL (l.drop lo) lx) bt) (.slice (some ⟨id, 0, none⟩) l.length c, some id) :=
      Or.inr ⟨id, c, vs', rest, ty', by rw [hlen], g1, g2, hset, rv, hlv, by rw [hlen]; exact hc', by rw [hlen]; exact hm'⟩
    exact (I.upd hM (fun _ _ => by simp) (fun _ _ => by simp) et (setRow_below g1) (setRow_size _ _ _) (fun i hi => setRow_other _ _ _ i hi) hb).less (fun _ _ e => e) (fun _ f => f.1)

theorem builtin_ok (I : Inv E n0 w0 h0 h θ M Fr w) (f : Fr κ) {b : Builtin} {tys : Array TypeId} {ty : TypeId} {consts : Array Bool} {args : List SV} {us : List Value} {out : Out} (r : RepL h θ args us) (e : (builtinS E M κ b tys args).eval = some out) :
    StepOk E n0 w0 h0 h θ M Fr κ w (builtin b tys ty consts us.toArray) out := by
  unfold builtinS at e
  split at e
  · rename_i x t ht
    obtain ⟨u, us', rfl, ru, rn⟩ := r.cons_inv
    cases rn.nil_inv
    split at e
    · rename_i n el hu
      cases hn : Nat.ble n lim with
      | false => rw [hn] at e; cases e
      | true =>
        rw [hn] at e; cases e
        have hn := Nat.le_of_ble_eq_true hn
        refine .of_value I (u := goInt n) ?_ (.v _ ?_)
        · simp [Builtin.len_, ht, run_underlying hu]
        · have := lim_le
          show okI .i64 _
          simp only [okI, show IntKind.i64.min = -9223372036854775808 from rfl, show IntKind.i64.max = 9223372036854775807 from rfl]
          omega
    · rename_i hu
      split at e
      · rename_i s
        cases e
        cases ru with
        | v _ o =>
          have o : s.size ≤ lim := o
          refine .of_value I (u := goInt s.size) ?_ (.v _ ?_)
          · simp [Builtin.len_, ht, run_underlying hu]
          · have := lim_le
            show okI .i64 _
            simp only [okI, show IntKind.i64.min = -9223372036854775808 from rfl, show IntKind.i64.max = 9223372036854775807 from rfl]
            omega
      · cases e
    · rename_i el hu
      split at e
      · rename_i n hn
        cases e
        obtain ⟨⟨a, c, rfl⟩, hl⟩ := lenS_ok I ru hn
        refine .of_value I (u := goInt n) ?_ (.v _ ?_)
        · simp [Builtin.len_, ht, run_underlying hu]
        · have := lim_le
          show okI .i64 _
          simp only [okI, show IntKind.i64.min = -9223372036854775808 from rfl, show IntKind.i64.max = 9223372036854775807 from rfl]
          omega
      · cases e
    · cases e
  · rename_i s x t ht
    obtain ⟨u, us', rfl, ru, rn⟩ := r.cons_inv
    obtain ⟨u2, us2, rfl, ru2, rn2⟩ := rn.cons_inv
    cases rn2.nil_inv
    split at e
    · rename_i el τ t' he ht'
      cases hx : isSliceT E t' with
      | false =>
        rw [hx] at e; simp only [cond_false] at e
        cases hxi : isIntT E t' with
        | false => rw [hxi] at e; cases e
        | true =>
          rw [hxi] at e; simp only [cond_true] at e
          split at e
          · rename_i n y hy
            replace e := need_eval e
            obtain ⟨hq, e⟩ := e
            simp only [Bool.and_eq_true, decide_eq_true_eq] at hq
            cases e
            cases ru
            cases ru2 with
            | v _ on =>
              obtain ⟨hu, i, z, hi, hz, hzs, hsz, hb, hpos, hle⟩ := elemTy_some he
              obtain ⟨k, hxs⟩ : ∃ k, E.P.underlying t' = some (.int k) := by
                unfold isIntT at hxi; split at hxi
                · exact ⟨_, ‹_›⟩
                · cases hxi
              have htys : ∀ (args : Array Value), (Builtin.append_ tys ty args).run E.P = (Builtin.append_ #[t, t'] ty args).run E.P := fun args => by
                unfold Builtin.append_
                simp only [ht, ht', List.getElem?_toArray, List.getElem?_cons_zero, List.getElem?_cons_succ]
              have hlim : n * i.bytes ≤ (lim : Int) := by rw [hb]; exact hq.2
              obtain ⟨z0, z1⟩ := run_append_zeros (ty := ty) (w := w) (h := h) (θ := θ) hu hxs hi hz hzs hsz ⟨hpos, hle⟩ (zeroE_some hy hi hz) on hq.1 hlim
              have hb' : builtin .append tys ty consts #[.slice none 0 0, .int .i64 n] = (do Pure.pure (.value (← Builtin.append_ tys ty #[.slice none 0 0, .int .i64 n]))) := rfl
              by_cases hn : n = 0
              · subst hn
                refine own_nil (τ := τ) (ty := el) I f (a := none) ?_ (M' := M) (fun _ _ e => e) rfl rfl
                show (builtin .append tys ty consts #[.slice none 0 0, .int .i64 0]).run E.P w = _
                simp only [hb', Sem.run_bind, htys, z0 rfl, Result.andThen_ok, Sem.run_pure]
              · obtain ⟨vs, rest, cap, rv, hlen, hcap, hr⟩ := z1 (by omega)
                refine own_new I f (w.drawn + 1) rv hlen (by rw [List.length_replicate]; exact hcap) ?_ (e := el) (ty := el) ?_ (M' := M) (fun _ _ e => e) rfl rfl
                · rw [List.length_replicate]
                  have : n.toNat * 1 ≤ n.toNat * i.bytes := Nat.mul_le_mul_left _ hpos
                  obtain ⟨m, rfl⟩ := Int.eq_ofNat_of_zero_le hq.1
                  have : m * i.bytes ≤ lim := by exact_mod_cast hlim
                  simp only [Int.toNat_natCast] at *
                  omega
                · show (builtin .append tys ty consts #[.slice none 0 0, .int .i64 n]).run E.P w = _
                  simp only [hb', Sem.run_bind, htys, hr, Result.andThen_ok, Sem.run_pure, List.length_replicate]
          · cases e
      | true =>
        rw [hx] at e; simp only [cond_true] at e
        split at e
        · rename_i lx hl
          have htys : ∀ (args : Array Value), (Builtin.append_ tys ty args).run E.P = (Builtin.append_ #[t, t'] ty args).run E.P := fun args => by
            unfold Builtin.append_
            simp only [ht, ht', List.getElem?_toArray, List.getElem?_cons_zero, List.getElem?_cons_succ]
          have := appendS_ok (ty := ty) I f he hx ru (listOf_cells I ru2 hl) e
          obtain ⟨nx, u', w', h', θ', q1, q⟩ := this
          refine ⟨nx, u', w', h', θ', ?_, q⟩
          rw [← q1]
          simp only [builtin, Sem.run_bind, htys]
        · cases e
    · cases e
  · rename_i x t ht
    obtain ⟨u, us', rfl, ru, rn⟩ := r.cons_inv
    cases rn.nil_inv
    split at e
    · rename_i el hu
      split at e
      · rename_i n hn
        cases e
        have hc : ∃ a l, u = .slice a l n ∧ n ≤ lim := by
          unfold capS at hn
          split at hn
          · cases hn; cases ru; exact ⟨_, _, rfl, Nat.zero_le _⟩
          · cases hn
            obtain ⟨b, rfl, r'⟩ := ru.rdx_inv
            obtain ⟨b', c', e1, e2, e3, _⟩ := r'.rd_inv
            cases e1
            exact ⟨_, _, rfl, e3⟩
          · cases hn
        obtain ⟨a, l, rfl, hl⟩ := hc
        refine .of_value I (u := goInt n) ?_ (.v _ ?_)
        · simp [Builtin.cap_, ht, run_underlying hu]
        · have := lim_le
          show okI .i64 _
          simp only [okI, show IntKind.i64.min = -9223372036854775808 from rfl, show IntKind.i64.max = 9223372036854775807 from rfl]
          omega
      · cases e
    · cases e
  · rename_i d x t ht
    obtain ⟨u, us', rfl, ru, rn⟩ := r.cons_inv
    obtain ⟨u2, us2, rfl, ru2, rn2⟩ := rn.cons_inv
    cases rn2.nil_inv
    split at e
    · rename_i el τ t' he ht'
      cases hx : isSliceT E t' with
      | false => rw [hx] at e; cases e
      | true =>
        rw [hx] at e; simp only [cond_true] at e
        split at e
        · rename_i lx hl
          have htys : ∀ (args : Array Value), (Builtin.copy_ tys ty args).run E.P = (Builtin.copy_ #[t, t'] ty args).run E.P := fun args => by
            unfold Builtin.copy_
            simp only [ht, ht', List.getElem?_toArray, List.getElem?_cons_zero, List.getElem?_cons_succ]
          have fin : ∀ {out : Out}, StepOk E n0 w0 h0 h θ M Fr κ w (do Pure.pure (.value (← Builtin.copy_ #[t, t'] ty #[u, u2]))) out → StepOk E n0 w0 h0 h θ M Fr κ w (builtin .copy tys ty consts #[u, u2]) out := fun {out} ⟨nx, u', w', h', θ', q1, q⟩ => by
            refine ⟨nx, u', w', h', θ', ?_, q⟩
            rw [← q1]
            simp only [builtin, Sem.run_bind, htys]
          unfold copyS at e
          split at e
          · rename_i k
            split at e
            · rename_i σ l bt hM
              split at e
              · rename_i l' hc
                obtain ⟨rfl, rfl⟩ := castL_eq hc
                cases e
                obtain ⟨base, m, c, o, rfl, et⟩ := ru.own_inv
                have hm : m = l'.length := by
                  obtain ⟨hd', e1, r1⟩ := I.blk k _ hM
                  rw [et] at e1; cases e1
                  rcases r1 with ⟨rfl, a, ea⟩ | ⟨_, _, _, _, _, ea, _⟩ <;> cases ea <;> rfl
                subst hm
                have := copy_ok (κ := κ) (sT := t') (ty := ty) I he hM et (Nat.zero_le _) hl ru2 base (.inl (by rw [Nat.zero_mul, map_add_zero])) c
                simp only [Nat.sub_zero, List.take_zero, List.drop_zero, List.nil_append] at this
                exact fin this
              · cases e
            · cases e
          · rename_i k sz lo
            split at e
            · rename_i σ l bt hM
              split at e
              · rename_i l' hc
                obtain ⟨rfl, rfl⟩ := castL_eq hc
                cases hsz : Nat.beq sz (szE σ) with
                | false => rw [hsz] at e; cases e
                | true =>
                  rw [hsz] at e; cases e
                  obtain rfl := Nat.eq_of_beq_eq_true hsz
                  cases ru with
                  | win _ _ _ m c a o et hlo =>
                    have hm : m = l'.length := by
                      obtain ⟨hd', e1, r1⟩ := I.blk k _ hM
                      rw [et] at e1; cases e1
                      rcases r1 with ⟨rfl, a, ea⟩ | ⟨_, _, _, _, _, ea, _⟩ <;> cases ea <;> rfl
                    subst hm
                    refine fin (copy_ok (κ := κ) (sT := t') (ty := ty) I he hM et hlo hl ru2 _ ?_ _)
                    by_cases hc : c = lo
                    · exact .inr hc
                    · rw [if_neg hc]; exact .inl rfl
              · cases e
            · cases e
          · cases e
        · cases e
    · cases e
  · obtain ⟨v, u, rfl, hr, rv⟩ := minmax_ok I r e tys ty
    exact .of_value I (by simpa using hr) rv
  · obtain ⟨v, u, rfl, hr, rv⟩ := minmax_ok I r e tys ty
    exact .of_value I (by simpa using hr) rv
  · cases e

/-! maps -/
theorem mapKd_some {t : TypeId} {kd : IntKind} {e : TypeId} (q : mapKd E t = some (kd, e)) : ∃ k, E.P.underlying t = some (.map k e) ∧ E.P.underlying k = some (.int kd) := by
  unfold mapKd at q
  split at q
  · rename_i k e' hu
    split at q
    · rename_i kd' hk
      cases q; exact ⟨k, hu, hk⟩
    · cases q
  · cases q
theorem findNow_notIn {kd : IntKind} {n : Int} : ∀ {es : List (Int × SV)} {ents : List MapEntry} (i : Nat), MapR h θ kd es ents → notIn n es = true → Instr.findNow (.int kd) (.int kd n) ents i = some none
  | [], [], i, _, _ => rfl
  | [], _ :: _, i, r, _ => r.elim
  | _ :: _, [], i, r, _ => r.elim
  | p :: es, e :: ents, i, r, q => by
    simp only [notIn, Bool.and_eq_true, Bool.not_eq_true'] at q
    have hne : (n == p.1) = false := by
      have := q.1
      simp only [beq_eq_false_iff_ne, ne_eq] at this ⊢
      exact fun h => this h.symm
    simp only [Instr.findNow, r.1.1, Instr.sameNow, if_true, hne]
    exact findNow_notIn (i + 1) r.2.2 q.2
theorem MapR.snoc {kd : IntKind} {n : Int} {x : SV} {v : Value} {b : Nat} (on : okI kd n) (rx : Rep h θ x v) : ∀ {es : List (Int × SV)} {ents : List MapEntry}, MapR h θ kd es ents → MapR h θ kd (es ++ [(n, x)]) (ents ++ [{ key := .int kd n, val := v, born := b }])
  | [], [], _ => ⟨⟨rfl, on⟩, rx, trivial⟩
  | [], _ :: _, r => r.elim
  | _ :: _, [], r => r.elim
  | p :: es, e :: ents, r => ⟨r.1, r.2.1, MapR.snoc on rx r.2.2⟩
theorem set_below {n0 : Nat} {w : World} {id : Nat} {o : Obj} (hid : n0 ≤ id) : Below n0 w { w with heap := w.heap.setIfInBounds id o } where
  os := rfl
  tape := rfl
  output := rfl
  size := by simp
  block := fun i hi => by simp [Array.getElem?_setIfInBounds_ne (show id ≠ i by omega)]
theorem makeMap_ok (I : Inv E n0 w0 h0 h θ M Fr w) (f : Fr κ) {t : TypeId} {r : Option SV} {vr : Option Value} {out : Out} (rr : RepO h θ r vr) (e : (makeMapS E t r κ).eval = some out) :
    StepOk E n0 w0 h0 h θ M Fr κ w (do Pure.pure (.value (← Instr.makeMap t vr))) out := by
  unfold makeMapS at e
  have fin : ∀ kd, (Instr.makeMap t vr).run E.P w = .ok (.map (some w.heap.size)) { w with heap := w.heap.push (.map #[] 0) } → out = .val (.map κ) (some (.map kd [])) → StepOk E n0 w0 h0 h θ M Fr κ w (do Pure.pure (.value (← Instr.makeMap t vr))) out := fun kd hr ho => by
    subst ho
    have tle := Th.le_set (hd := (.map (some w.heap.size), some w.heap.size)) (I.fresh κ f)
    have hnone : h w.heap.size = none := by
      cases hh : h w.heap.size with
      | none => rfl
      | some o => have := I.old_lt hh; omega
    refine ⟨.value (.map (some w.heap.size)), _, { w with heap := w.heap.push (.map #[] 0) }, h, _, by simp [hr], .inl rfl, .refl _, tle, I.new f _ (.map kd []) _ ⟨w.heap.size, #[], 0, rfl, I.size, hnone, by simp, trivial, .nil 0⟩, ?_⟩
    exact .map κ w.heap.size (if_pos rfl)
  split at e
  · rename_i kd el hk
    cases vr with
    | none => exact fin kd (by simp [Instr.makeMap, run_newObj]) (val_eval e)
    | some v => exact rr.elim
  · rename_i kd el k n hk
    obtain ⟨kt, hu, _⟩ := mapKd_some hk
    cases vr with
    | none => exact rr.elim
    | some v =>
      have rr : Rep h θ (.v (.int k n)) v := rr
      cases rr
      exact fin kd (by simp [Instr.makeMap, run_underlying hu, asInt, asIntOf, run_newObj]) (val_eval e)
  · cases e
theorem insert_ok (I : Inv E n0 w0 h0 h θ M Fr w) {t : TypeId} {m k x : SV} {um uk ux : Value} {out : Out} (rm : Rep h θ m um) (rk : Rep h θ k uk) (rx : Rep h θ x ux) (e : (insertS E M t m k x).eval = some out) :
    ∃ w' M', out = .eff .undef M' ∧ (Instr.mapUpdate t um uk ux).run E.P w = .ok () w' ∧ Inv E n0 w0 h0 h θ M' Fr w' := by
  unfold insertS at e
  split at e
  · rename_i kd el key kd' n hk
    obtain ⟨kt, hu, hkt⟩ := mapKd_some hk
    split at e
    · rename_i kd'' es hM
      cases h1 : (kd == kd') with
      | false => rw [h1] at e; cases e
      | true =>
        cases h2 : (kd == kd'') with
        | false => rw [h1, h2] at e; cases e
        | true =>
          cases h3 : notIn n es with
          | false => rw [h1, h2, h3] at e; cases e
          | true =>
            rw [h1, h2, h3] at e; cases e
            obtain rfl : kd = kd' := by simpa using h1
            obtain rfl : kd = kd'' := by simpa using h2
            cases rk with
            | v _ on =>
            cases rm with
            | map _ id et =>
              obtain ⟨hd, e1, r⟩ := I.blk key _ hM
              rw [et] at e1; cases e1
              obtain ⟨id', ents, clock, ea, g1, g2, hh, rc, bo⟩ := r
              simp only [Prod.mk.injEq, Option.some.injEq] at ea
              obtain ⟨-, rfl⟩ := ea
              have hf := findNow_notIn 0 rc h3
              have hs := Go.MapKept.heap_set (o' := .map (ents.push { key := .int kd n, val := ux, born := clock }) (clock + 1)) hh
              refine ⟨_, _, rfl, ?_, I.upd hM (fun _ _ => by simp) (fun _ _ => by simp) et (set_below g1) (by simp) hs.2 ⟨id, ents.push { key := .int kd n, val := ux, born := clock }, clock + 1, rfl, g1, g2, hs.1, ?_, bo.push _ rfl⟩⟩
              · simp only [Instr.mapUpdate, Sem.run_bind, run_underlying hu, Go.MapKept.run_getObj_map hh, Result.andThen_ok, Go.MapKept.run_checkKey (k := .int kd n) hkt rfl, Go.MapKept.run_findKey hkt hf, Go.MapKept.run_setObj_map _ hh]
              · rw [Array.toList_push]; exact rc.snoc on rx
    · cases e
  · cases e
theorem zero1_rep {t : TypeId} {z : SV} (q : zero1 E t = some z) : ∃ i v, E.P.info? t = some i ∧ i.zero = some v ∧ Rep h θ z v := by
  unfold zero1 at q
  cases hi : E.P.info? t with
  | none => rw [hi] at q; cases q
  | some i =>
    rw [hi] at q; simp only [Option.bind_some] at q
    cases hv : i.zero with
    | none => rw [hv] at q; cases q
    | some v =>
      rw [hv] at q; simp only [Option.bind_some] at q
      refine ⟨i, v, rfl, hv, ?_⟩
      split at q
      · rename_i a
        cases hz : zeroC E t with
        | none => rw [hz] at q; cases q
        | some cs =>
          rw [hz] at q; cases q
          obtain ⟨i', v', hi', hv', r⟩ := zeroC_rep (h := h) (θ := θ) hz
          rw [hi] at hi'; cases hi'
          rw [hv] at hv'; cases hv'
          exact .agg cs a.toList r
      · cases q
        exact constS_rep v
theorem lookupM_ok {kd : IntKind} {n : Int} {nn : OpT} {sm : SV → OpT} {out : Out} : ∀ {es : List (Int × SV)} {ents : List MapEntry} (i : Nat), MapR h θ kd es ents → (lookupM n nn sm es).eval = some out →
    (Instr.findNow (.int kd) (.int kd n) ents i = some none ∧ nn.eval = some out) ∨ ∃ j x v, Instr.findNow (.int kd) (.int kd n) ents i = some (some (j, v)) ∧ Rep h θ x v ∧ (sm x).eval = some out
  | [], [], i, _, e => .inl ⟨rfl, e⟩
  | [], _ :: _, i, r, _ => r.elim
  | _ :: _, [], i, r, _ => r.elim
  | p :: es, en :: ents, i, r, e => by
    obtain ⟨k', x⟩ := p
    simp only [lookupM, OpT.eval] at e
    cases hq : (n == k') with
    | true =>
      rw [hq] at e
      exact .inr ⟨i, x, en.val, by simp only [Instr.findNow, r.1.1, Instr.sameNow, if_true, hq], r.2.1, e⟩
    | false =>
      rw [hq] at e
      have hfn : Instr.findNow (.int kd) (.int kd n) (en :: ents) i = Instr.findNow (.int kd) (.int kd n) ents (i + 1) := by
        simp only [Instr.findNow, r.1.1, Instr.sameNow, if_true, hq]
      rw [hfn]
      exact lookupM_ok (i + 1) r.2.2 e
theorem lookup_ok (I : Inv E n0 w0 h0 h θ M Fr w) {t : TypeId} {m k : SV} {um uk : Value} {ok : Bool} {out : Out} (rm : Rep h θ m um) (rk : Rep h θ k uk) (e : (lookupS E M t m k ok).eval = some out) :
    PureOk E h θ w (Instr.lookup t um uk ok) out := by
  unfold lookupS at e
  split at e
  · rename_i kd el key kd' n hk
    obtain ⟨kt, hu, hkt⟩ := mapKd_some hk
    split at e
    · rename_i kd'' es z hM hz
      cases h1 : (kd == kd') with
      | false => rw [h1] at e; cases e
      | true =>
        cases h2 : (kd == kd'') with
        | false => rw [h1, h2] at e; cases e
        | true =>
          rw [h1, h2] at e; simp only [Bool.and_self, cond_true] at e
          obtain rfl : kd = kd' := by simpa using h1
          obtain rfl : kd = kd'' := by simpa using h2
          cases rk
          cases rm with
          | map _ id et =>
            obtain ⟨hd, e1, r⟩ := I.blk key _ hM
            rw [et] at e1; cases e1
            obtain ⟨id', ents, clock, ea, g1, g2, hh, rc, _⟩ := r
            simp only [Prod.mk.injEq, Option.some.injEq] at ea
            obtain ⟨-, rfl⟩ := ea
            obtain ⟨i, zv, hi, hzv, rz⟩ := zero1_rep (h := h) (θ := θ) hz
            have hzr := run_zeroValue' hi hzv w
            have fin : ∀ (s : SV) (v : Value) (q : Bool), Rep h θ s v → out = .val (bif ok then .tup [s, .b q] else s) none → (Instr.lookup t (.map (some id)) (.int kd n) ok).run E.P w = .ok (if ok then .tuple #[v, .bool q] else v) w → PureOk E h θ w (Instr.lookup t (.map (some id)) (.int kd n) ok) out := fun s v q rs ho hr => by
              refine ⟨_, _, ho, hr, ?_⟩
              cases ok with
              | true => exact .tup _ [v, .bool q] (.cons _ _ _ _ rs (.cons _ _ _ _ (.b q) .nil))
              | false => exact rs
            rcases lookupM_ok 0 rc e with ⟨hf, e⟩ | ⟨j, x, v, hf, rx, e⟩
            · refine fin z zv false rz (val_eval e) ?_
              simp only [Instr.lookup, Sem.run_bind, run_underlying hu, Go.MapKept.run_getObj_map hh, Result.andThen_ok, Sem.run_pure, Go.MapKept.run_checkKey (k := .int kd n) hkt rfl, Go.MapKept.run_findKey hkt hf, hzr]
            · refine fin x v true rx (val_eval e) ?_
              simp only [Instr.lookup, Sem.run_bind, run_underlying hu, Go.MapKept.run_getObj_map hh, Result.andThen_ok, Sem.run_pure, Go.MapKept.run_checkKey (k := .int kd n) hkt rfl, Go.MapKept.run_findKey hkt hf]
    · cases e
  · cases e

/-- a live block's object lies still from now on; its key is given up -/
theorem Inv.fix (I : Inv E n0 w0 h0 h θ M Fr w) {k : Nat} {b : Blk} {v : Value} {id : Nat} {ob : Obj} (e : M k = some b) (l : b.live) (et : θ k = some (v, some id)) (ho : w.heap[id]? = some ob) :
    h.le (fun j => if j = id then some ob else h j) ∧ Inv E n0 w0 h0 (fun j => if j = id then some ob else h j) θ (M.del k) Fr w := by
  obtain ⟨o1, o2, o3⟩ := I.own e et l
  have hle : h.le (fun j => if j = id then some ob else h j) := fun j o ej => by
    by_cases hj : j = id
    · subst hj; rw [o2] at ej; cases ej
    · simp only [hj, if_false]; exact ej
  have del : ∀ {j : Nat} {c : Blk}, M.del k j = some c → j ≠ k ∧ M j = some c := fun {j c} hc => by
    by_cases hjk : j = k
    · subst hjk; rw [Mem.del_same] at hc; cases hc
    · rw [Mem.del_ne _ hjk] at hc; exact ⟨hjk, hc⟩
  refine ⟨hle, ⟨fun j o ej => ?_, fun j c ej => ?_, fun j j' c c' i u u' hj hj' lc lc' ej ej' => ?_, I.fresh, I.below, I.n0le, I.hle.trans hle, fun j hj => ?_, I.glob⟩⟩
  · by_cases hj : j = id
    · subst hj; simp only [if_true, Option.some.injEq] at ej; rw [← ej]; exact ho
    · simp only [hj, if_false] at ej; exact I.agree j o ej
  · obtain ⟨hjk, hM⟩ := del ej
    obtain ⟨hd, e1, r⟩ := I.blk j c hM
    refine ⟨hd, e1, r.later hle (.refl _) fun u i hu nf => ⟨rfl, if_neg fun hi => ?_⟩⟩
    subst hu; subst hi
    exact hjk (I.inj j k c b i u v hM e nf l e1 et)
  · exact I.inj j j' c c' i u u' (del hj).2 (del hj').2 lc lc' ej ej'
  · have : ¬ j = id := by omega
    simp only [this, if_false]; exact I.hold j hj
theorem range_ok (I : Inv E n0 w0 h0 h θ M Fr w) (f : Fr κ) {t : TypeId} {m : SV} {um : Value} {out : Out} (rm : Rep h θ m um) (e : (rangeS E M t m κ).eval = some out) :
    StepOk E n0 w0 h0 h θ M Fr κ w (do Pure.pure (.value (← Instr.range t um))) out := by
  unfold rangeS at e
  split at e
  · rename_i kd el key hk
    obtain ⟨kt, hu, hkt⟩ := mapKd_some hk
    split at e
    · rename_i kd' es hM
      cases hkk : (kd == kd') with
      | false => rw [hkk] at e; cases e
      | true =>
        rw [hkk] at e; cases e
        obtain rfl : kd = kd' := by simpa using hkk
        cases rm with
        | map _ id et =>
          obtain ⟨hd, e1, r⟩ := I.blk key _ hM
          rw [et] at e1; cases e1
          obtain ⟨id', ents, clock, ea, g1, g2, hh, rc, bo⟩ := r
          simp only [Prod.mk.injEq, Option.some.injEq] at ea
          obtain ⟨-, rfl⟩ := ea
          obtain ⟨hle, I1⟩ := I.fix hM (fun _ _ => by simp) et hh
          have hnone : (fun j => if j = id then some (Obj.map ents clock) else h j) w.heap.size = none := by
            have hlt := (Array.getElem?_eq_some_iff.1 hh).1
            have : ¬ w.heap.size = id := by omega
            simp only [this, if_false]
            cases hq : h w.heap.size with
            | none => rfl
            | some o => have := I.old_lt hq; omega
          have tle := Th.le_set (hd := (.pointer (some ⟨w.heap.size, 0, none⟩), some w.heap.size)) (I.fresh κ f)
          have I2 := I1.new f (.mapIter (some id) clock #[] clock) (.iter kd es (es.map fun _ => false) none) (.pointer (some ⟨w.heap.size, 0, none⟩))
            ⟨w.heap.size, id, clock, clock, #[], ents, rfl, I.size, hnone, by simp, if_pos rfl, rc.mono hle tle, bo, Nat.le_refl _, fun i e he => by
              have hi : i < es.length := by
                have := (Array.getElem?_eq_some_iff.1 he).1
                have := rc.length
                simp at this; omega
              rw [List.getD_eq_getElem?_getD, List.getElem?_map, List.getElem?_eq_getElem hi]; simp, fun i h => by cases h⟩
          refine ⟨_, _, _, _, _, ?_, .inl rfl, hle, tle, I2, .iter κ _ (if_pos rfl)⟩
          simp only [Instr.range, Sem.run_bind, run_underlying hu, Result.andThen_ok, Go.MapKept.run_getObj_map hh, Sem.run_pure, run_newObj]
    · cases e
  · cases e
theorem entry_ok (I : Inv E n0 w0 h0 h θ M Fr w) {x s : SV} {u : Value} (r : Rep h θ x u) (e : entryS M x = some s) : ∃ v, (Instr.entry u).run E.P w = .ok v w ∧ Rep h θ s v := by
  unfold entryS at e
  split at e
  · rename_i k
    split at e
    · rename_i kd es dn i hM
      obtain ⟨p, hp, rfl⟩ := Option.map_eq_some_iff.1 e
      cases r with
      | iter _ id et =>
        obtain ⟨hd, e1, rb⟩ := I.blk k _ hM
        rw [et] at e1; cases e1
        obtain ⟨id', mid, since, last, seen, ents, ea, g1, g2, hh, hm, rc, bo, hls, hs, hcur⟩ := rb
        simp only [Prod.mk.injEq, Option.some.injEq] at ea
        obtain ⟨-, rfl⟩ := ea
        obtain ⟨en, hen, hback⟩ := hcur i rfl
        obtain ⟨en', q1, q2, q3, q4⟩ := rc.get hp
        rw [Array.getElem?_toList, hen] at q1
        cases q1
        have hmw := I.agree _ _ hm
        have hfind : ents.find? (·.born == en.born) = some en := by
          rw [← Array.find?_toList]
          cases hf : ents.toList.find? (·.born == en.born) with
          | none =>
            have := List.find?_eq_none.1 hf en (List.mem_of_getElem? (by rw [Array.getElem?_toList]; exact hen))
            simp at this
          | some y =>
            have h1 := List.find?_some hf
            obtain ⟨j, hj⟩ := List.getElem?_of_mem (List.mem_of_find?_eq_some hf)
            rw [Array.getElem?_toList] at hj
            have := bo.2 j i y en hj hen (by simpa using h1)
            subst this
            rw [hen] at hj; cases hj; rfl
        refine ⟨.tuple #[en.key, en.val], ?_, .tup [svI kd p.1, p.2] [en.key, en.val] (.cons _ _ _ _ (by rw [q2]; exact .v _ q3) (.cons _ _ _ _ q4 .nil))⟩
        have hg : ∀ {b : Nat} {o : Obj}, w.heap[b]? = some o → (∀ c t f, o ≠ .cells c t f) → (getObj b).run E.P w = .ok o w := fun {b o} hb hn => by
          cases o <;> first | exact absurd rfl (hn _ _ _) | simp [getObj, Sem.run, hb]
        simp only [Instr.entry, Sem.run_bind, hg hh (by simp), Result.andThen_ok, hback, hg hmw (by simp), hfind, bne_self_eq_false, Bool.false_eq_true, if_false, Sem.run_pure]
    · cases e
  · cases e
theorem iface_ok {t : TypeId} {x s : SV} {u : Value} (r : Rep h θ x u) (e : ifaceS E t x = some s) : ∃ v, (Instr.makeInterface t u).run E.P w = .ok v w ∧ Rep h θ s v := by
  unfold ifaceS at e
  split at e
  · cases e
  · cases e
  · rename_i d hne hd
    have run : (Instr.makeInterface t u).run E.P w = .ok (.iface t u) w := by
      simp only [Instr.makeInterface, Sem.run_bind, run_underlying hd, Result.andThen_ok]
      cases d <;> first | rfl | exact absurd rfl (hne _)
    split at e
    · cases e; cases r; exact ⟨_, run, .v _ trivial⟩
    · cases e
      cases r with
      | agg _ vs r => cases r; exact ⟨_, run, .v _ trivial⟩
    · cases e
theorem step_sound (I : Inv E n0 w0 h0 h θ M Fr w) (f : Fr κ) {T : Tmps} {a : Act} (hT : RepT h θ T a.tmps) {o : Oper} {out : Out} (e : (stepOp E T M κ o.op).eval = some out) :
    StepOk E n0 w0 h0 h θ M Fr κ w (execOp a.eval o) out := by
  obtain ⟨dst, op, typ, pos, after, guard⟩ := o
  simp only at e
  have pv : ∀ {s : Sem Value}, PureOk E h θ w s out → StepOk E n0 w0 h0 h θ M Fr κ w (do Pure.pure (.value (← s))) out := fun p => p.step I
  cases op <;> simp only [stepOp] at e <;> first | (cases e; done) | skip
  case move x => cases e; exact .pure I rfl (opd_rep hT x)
  case assign x => cases e; exact .pure I rfl (opd_rep hT x)
  case pick c x y =>
    have rc := opd_rep hT c
    split at e
    · rename_i hc
      rw [hc] at rc
      cases e
      have ec : a.eval c = .bool true := by
        generalize a.eval c = v at rc
        cases rc; rfl
      exact .pure I (by simp [execOp, ec, asBool]) (opd_rep hT x)
    · rename_i hc
      rw [hc] at rc
      cases e
      have ec : a.eval c = .bool false := by
        generalize a.eval c = v at rc
        cases rc; rfl
      exact .pure I (by simp [execOp, ec, asBool]) (opd_rep hT y)
    · rename_i q hc
      rw [hc] at rc
      have ec : a.eval c = .bool q := by
        generalize a.eval c = v at rc
        cases rc; rfl
      simp only [OpT.eval] at e
      cases q with
      | true => cases e; exact .pure I (by simp [execOp, ec, asBool]) (opd_rep hT x)
      | false => cases e; exact .pure I (by simp [execOp, ec, asBool]) (opd_rep hT y)
    · cases e
  case alloc t =>
    split at e
    · cases e; exact alloc_ok I f ‹_›
    · cases e
  case box t x =>
    split at e
    · cases e; exact box_ok I f ‹_› (opd_rep hT x)
    · cases e
  case build t parts =>
    obtain ⟨v, hv, rfl⟩ := ofOpt_eval e
    cases hb : buildC E t (parts.toList.map fun p => (p.1, opd T p.2)) with
    | none => rw [hb] at hv; cases hv
    | some cs =>
      rw [hb] at hv; cases hv
      obtain ⟨v, hr, rv⟩ := build_ok I hb (us := parts.toList.map fun p => (p.1, a.eval p.2)) (by simp) (parts_rep hT parts.toList)
      exact .of_value I (by rw [map_pair]; exact hr) rv
  case buildSlice t len parts =>
    have := buildSlice_ok I f e (us := parts.toList.map fun p => (p.1, a.eval p.2)) (by simp) (parts_rep hT parts.toList)
    simp only [execOp]
    rw [map_pair]; exact this
  case load t x =>
    obtain ⟨v, hv, rfl⟩ := ofOpt_eval e
    obtain ⟨u, hr, ru⟩ := load_ok I (opd_rep hT x) hv
    exact .of_value I hr ru
  case store t x y =>
    split at e
    · rename_i M' hs
      cases e
      obtain ⟨w', h', hr, hle, I'⟩ := store_ok I (opd_rep hT x) (opd_rep hT y) hs
      exact ⟨.skip, undef, w', h', θ, by simp [execOp, hr], .inr ⟨rfl, rfl⟩, hle, .refl _, I'.less (fun _ _ e => e) (fun _ f => f.1), .undef⟩
    · cases e
  case nilCheck x =>
    have rx := opd_rep hT x
    have ptr : ∀ ad, a.eval x = .pointer (some ad) → out = .val (opd T x) none → StepOk E n0 w0 h0 h θ M Fr κ w (execOp a.eval ⟨dst, .nilCheck x, typ, pos, after, guard⟩) out := fun ad ha ho => by
      subst ho
      exact .pure I (by simp [execOp, ha]) rx
    split at e
    · rename_i hx; cases e; rw [hx] at rx
      obtain ⟨id, ha, _⟩ := rx.loc_inv
      exact ptr _ ha rfl
    · rename_i hx; cases e; rw [hx] at rx
      obtain ⟨ha, _⟩ := rx.gptr_inv
      exact ptr _ ha rfl
    · rename_i hx; cases e; rw [hx] at rx
      obtain ⟨id, vs, ty, fz, ha, _⟩ := rx.pp_inv
      exact ptr _ ha rfl
    · rename_i hx; cases e; rw [hx] at rx
      obtain ⟨b, c, ha, _⟩ := rx.rptr_inv
      exact ptr _ ha rfl
    · rename_i hx; cases e; rw [hx] at rx
      obtain ⟨id, n, c, ha, _⟩ := rx.optr_inv
      exact ptr _ ha rfl
    · rename_i g fs cs hx; cases e
      have rx' := rx
      rw [hx] at rx'
      have : ∃ xs ys, a.eval x = .func (.func g) xs ys := by
        generalize a.eval x = v at rx'
        cases rx'; exact ⟨_, _, rfl⟩
      obtain ⟨xs, ys, ha⟩ := this
      exact .pure I (by simp [execOp, ha]) rx
    · cases e
  case binOp op t x y yt => exact pv (binS_ok (opd_rep hT x) (opd_rep hT y) e)
  case unOp op t x => exact pv (unS_ok (opd_rep hT x) e)
  case convert src dst' x => exact pv (convS_ok (opd_rep hT x) e)
  case makeFunc fn first cap =>
    cases e
    refine .pure I (u := .func fn (first.toList.map a.eval).toArray (cap.toList.map a.eval).toArray) ?_ (.fn fn _ _ _ _ (opds_rep hT _) (opds_rep hT _))
    simp only [execOp, Instr.makeFunc, map_opds]
    rfl
  case makeMap t r => exact makeMap_ok I f (opdO_rep hT r) e
  case insert t m k x =>
    obtain ⟨w', M', rfl, hr, I'⟩ := insert_ok I (opd_rep hT m) (opd_rep hT k) (opd_rep hT x) e
    exact ⟨.skip, undef, w', h, θ, by simp [execOp, hr], .inr ⟨rfl, rfl⟩, .refl _, .refl _, I'.less (fun _ _ e => e) (fun _ f => f.1), .undef⟩
  case mapUpdate t m k x =>
    obtain ⟨w', M', rfl, hr, I'⟩ := insert_ok I (opd_rep hT m) (opd_rep hT k) (opd_rep hT x) e
    exact ⟨.skip, undef, w', h, θ, by simp [execOp, hr], .inr ⟨rfl, rfl⟩, .refl _, .refl _, I'.less (fun _ _ e => e) (fun _ f => f.1), .undef⟩
  case lookup t m k ok => exact pv (lookup_ok I (opd_rep hT m) (opd_rep hT k) e)
  case makeSlice t l c => exact makeSlice_ok I f (opd_rep hT l) (opd_rep hT c) e
  case range t m => exact range_ok I f (opd_rep hT m) e
  case entry it =>
    obtain ⟨v, hv, rfl⟩ := ofOpt_eval e
    obtain ⟨u, hr, ru⟩ := entry_ok (w := w) I (opd_rep hT it) hv
    exact .of_value I hr ru
  case makeInterface t x =>
    obtain ⟨v, hv, rfl⟩ := ofOpt_eval e
    obtain ⟨u, hr, ru⟩ := iface_ok (w := w) (opd_rep hT x) hv
    exact .of_value I hr ru
  case slice t x lo hi mx => exact slice_ok I f (opd_rep hT x) (opdO_rep hT lo) (opdO_rep hT hi) (opdO_rep hT mx) e
  case fieldAddr s x g =>
    obtain ⟨v, hv, rfl⟩ := ofOpt_eval e
    obtain ⟨u, hr, ru⟩ := fieldAddr_ok (w := w) (opd_rep hT x) hv
    exact .of_value I hr ru
  case field s x g =>
    obtain ⟨v, hv, rfl⟩ := ofOpt_eval e
    obtain ⟨u, hr, ru⟩ := field_ok (w := w) (opd_rep hT x) hv
    exact .of_value I hr ru
  case indexAddr t x i => exact pv (indexAddr_ok I (opd_rep hT x) (opd_rep hT i) e)
  case index t x i => exact pv (index_ok (opd_rep hT x) (opd_rep hT i) e)
  case extract x i =>
    have rx := opd_rep hT x
    split at e
    · rename_i vs hx
      obtain ⟨v, hv, rfl⟩ := ofOpt_eval e
      rw [hx] at rx
      have : ∃ us, a.eval x = .tuple us.toArray ∧ RepL h θ vs us := by
        generalize a.eval x = v at rx
        cases rx; exact ⟨_, rfl, ‹_›⟩
      obtain ⟨us, ha, ru⟩ := this
      obtain ⟨u, hu, rv⟩ := ru.get hv
      exact .of_value I (by simp [Instr.extract, ha, hu]) rv
    · cases e
  case call c =>
    obtain ⟨callee, args, tys⟩ := c
    simp only at e
    split at e
    · rename_i b
      have := builtin_ok (ty := typ) (consts := args.map fun | .const _ => true | _ => false) I f (opds_rep hT args.toList) e
      simp only [execOp, resolve, pure_bind, invoke]
      rw [map_opds]; exact this
    · cases e
end ops
end Go.Proofs.YtchljgmcempedaaGreatDoor
