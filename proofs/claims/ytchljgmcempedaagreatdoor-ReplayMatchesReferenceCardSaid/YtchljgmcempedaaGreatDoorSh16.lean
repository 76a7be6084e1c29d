/- Regions in the order of the text do what the evaluator says (nothing is claimed here). -/
import Derived.Test.YtchljgmcempedaaGreatDoorSh15
set_option linter.unusedVariables false
set_option linter.unusedSimpArgs false
namespace Go.Proofs.YtchljgmcempedaaGreatDoor
open Go Go.RowKit

section seq
variable {E : Env} {n0 : Nat} {w0 : World} {h0 h : Hp} {θ : Th} {M : Mem} {Fr : Nat → Prop} {κ : Nat} {w : World} {H : Tree → Prop} {r : Option Nat}

theorem guard_ok {ops : Array Oper} {T : Tmps} {a : Act} (hT : RepT h θ T a.tmps) {o : Oper} {g : Bool} (e : guardS ops T o.guard = some g) : Region.wanted o (yielded ops a.tmps) = g := by
  unfold guardS at e
  unfold Region.wanted
  cases hg : o.guard with
  | none => rw [hg] at e; cases e; rfl
  | some p =>
    obtain ⟨j, want⟩ := p
    rw [hg] at e
    simp only at e ⊢
    unfold yielded
    cases hd : (ops[j]?).bind (·.dst) with
    | none => rw [hd] at e; cases e
    | some d =>
      rw [hd] at e
      simp only [Option.bind_some] at e ⊢
      have r := hT d
      split at e
      · rename_i q hq
        cases e
        rw [hq] at r
        rw [Array.getD_eq_getD_getElem?] at r
        cases hx : a.tmps[d]? with
        | none => rw [hx] at r; cases r
        | some v =>
          rw [hx] at r
          simp only [Option.getD_some] at r
          cases r
          cases q <;> cases want <;> rfl
      · rename_i hq
        cases e
        rw [hq] at r
        rw [Array.getD_eq_getD_getElem?] at r
        cases hx : a.tmps[d]? with
        | none => rfl
        | some v =>
          rw [hx] at r
          simp only [Option.getD_some] at r
          generalize hu : v = u at r
          cases r
          rfl
      · cases e

theorem callee_run (ok : EnvOk E) {T : Tmps} {a : Act} (hT : RepT h θ T a.tmps) {f : Operand} {c : Call} {args : List SV} {g : FuncId} (hc : c.callee = .value f) (e : calleeS (opd T f) (c.args.toList.map (opd T)) = some (g, args)) (hg : E.callee g = true) (ty : TypeId) :
    ∃ us : List Value, RepL h θ args us ∧ ∀ w, (do let d ← resolve a.eval c ty; invoke d.target d.args : Sem Next).run E.P w = .ok (.enter g us.toArray) w := by
  unfold calleeS at e
  split at e
  · rename_i g' first cap hf
    cases e
    have rf := opd_rep hT f
    rw [hf] at rf
    have : ∃ xs ys, a.eval f = .func (.func g) xs.toArray ys.toArray ∧ RepL h θ first xs ∧ RepL h θ cap ys := by
      generalize a.eval f = v at rf
      cases rf; exact ⟨_, _, rfl, ‹_›, ‹_›⟩
    obtain ⟨xs, ys, hv, r1, r2⟩ := this
    refine ⟨xs ++ (c.args.toList.map a.eval ++ ys), r1.append (tt := c.args.toList.map (opd T) ++ cap) (ss := first) (vs := xs) ((opds_rep hT _).append (ss := c.args.toList.map (opd T)) (vs := c.args.toList.map a.eval) r2), fun w => ?_⟩
    have harr : (xs.toArray ++ c.args.map a.eval) ++ ys.toArray = (xs ++ (c.args.toList.map a.eval ++ ys)).toArray := by
      apply Array.ext'; simp
    have := ok.callee g hg ((xs.toArray ++ c.args.map a.eval) ++ ys.toArray) w
    rw [harr] at this
    simp only [resolve, hc, hv, Deferred.ofValue, Sem.run_bind, Sem.run_pure, Result.andThen_ok, invoke]
    rw [← harr] at this ⊢
    exact this
  · cases e

theorem listS_slice (I : Inv E n0 w0 h0 h θ M Fr w) {x : SV} {u : Value} {p : (τ : ETy) × List τ.T} (r : Rep h θ x u) (hl : listS M x = some p) : ∃ ad n c, u = .slice ad n c ∧ (p.2 ≠ [] → ad ≠ none) := by
  have rd : ∀ (τ : ETy) (l : List τ.T), Rep h θ (.rd τ l) u → ∃ ad n c, u = .slice ad n c ∧ (l ≠ [] → ad ≠ none) := fun τ l r => by
    obtain ⟨b, c, rfl, _, _, hx⟩ := r.rd_inv
    exact ⟨b, _, c, rfl, fun h => by obtain ⟨x, rfl, _⟩ := hx h; simp⟩
  unfold listS at hl
  split at hl
  · cases hl; exact rd _ _ r
  · cases hl
    obtain ⟨b, rfl, r'⟩ := r.rdx_inv
    exact rd _ _ r'
  · rename_i k
    obtain ⟨b, m, c, o, rfl, et⟩ := r.own_inv
    split at hl
    · rename_i τ' l' ty' hM
      cases hl
      obtain ⟨hd', e1, r1⟩ := I.blk k _ hM
      rw [et] at e1; cases e1
      rcases r1 with ⟨rfl, a, ea⟩ | ⟨id', c', vs, rest, ty', ea, _⟩
      · cases ea; exact ⟨_, _, _, rfl, fun h => absurd rfl h⟩
      · cases ea; exact ⟨_, _, _, rfl, fun _ => by simp⟩
    · rename_i τ' l' hM
      cases hl
      obtain ⟨hd', e1, r1⟩ := I.blk k _ hM
      rw [et] at e1; cases e1
      exact rd _ _ r1
    · cases hl
  · cases hl
theorem run_equal_slice {P : Program} {t e : TypeId} (w : World) (hu : P.underlying t = some (.slice e)) {ad : Option Addr} {n c : Nat} : (Op.equal t (.slice ad n c) (.slice none 0 0)).run P w = .ok ad.isNone w := by
  have : ∀ d, (Op.equalIn (d + 1) t (.slice ad n c) (.slice none 0 0)).run P w = .ok ad.isNone w := fun d => by
    cases ad with
    | none => simp only [Op.equalIn, Sem.run_bind, run_underlying hu, Result.andThen_ok, Sem.run_pure]
    | some a => simp only [Op.equalIn, Sem.run_bind, run_underlying hu, Result.andThen_ok, Sem.run_pure]; rfl
  exact this 9999
theorem nilCmp_ok (I : Inv E n0 w0 h0 h θ M Fr w) {op : BinOp} {t : TypeId} {x y : Operand} {sx sy : SV} {a b : Value} {q : Bool} (ra : Rep h θ sx a) (rb : Rep h θ sy b) (e : nilCmp E M op t sx sy = some q) :
    ∃ r : Bool, (do eqGuard op t x y a b; binOp op t a b : Sem Value).run E.P w = .ok (.bool r) w ∧ (q = false → r = neqB op) := by
  have key : ∀ el, E.P.underlying t = some (.slice el) → sy = .v (.slice none 0 0) → (listS M sx).map (fun p => Nat.beq p.2.length 0) = some q → ∃ r : Bool, (Op.equal t a b).run E.P w = .ok r w ∧ (q = false → r = false) ∧ ∃ ad n c, a = .slice ad n c ∧ b = .slice none 0 0 := fun el hu hy hl => by
    subst hy
    obtain ⟨p, h1, h2⟩ := Option.map_eq_some_iff.1 hl
    obtain ⟨ad, n, c, rfl, hne⟩ := listS_slice I ra h1
    cases rb
    refine ⟨_, run_equal_slice w hu, fun hq => ?_, _, _, _, rfl, rfl⟩
    rw [hq] at h2
    have : ad ≠ none := hne fun hn => by rw [hn] at h2; cases h2
    cases ad with
    | none => exact absurd rfl this
    | some _ => rfl
  unfold nilCmp at e
  split at e
  · rename_i el hu
    obtain ⟨r, h1, h2, ad, n, c, rfl, rfl⟩ := key _ hu rfl e
    exact ⟨r, by simp only [Sem.run_bind, run_guard_plain _ t x y (a := .slice ad n c) (fun _ => by simp) (by simp), Result.andThen_ok]; simp [binOp, h1], h2⟩
  · rename_i el hu
    obtain ⟨r, h1, h2, ad, n, c, rfl, rfl⟩ := key _ hu rfl e
    exact ⟨!r, by simp only [Sem.run_bind, run_guard_plain _ t x y (a := .slice ad n c) (fun _ => by simp) (by simp), Result.andThen_ok]; simp [binOp, h1], fun hq => by rw [h2 hq]; rfl⟩
  · cases e
theorem nextT_get {key : Nat} {kd : IntKind} {all : List (Int × SV)} {dn : List Bool} {M : Mem} {K : SV → Mem → Tree} (C : Closed H) : ∀ {es : List (Int × SV)} {i0 : Nat}, H (nextT key kd all dn M K i0 es) →
    (∀ j p, es[j]? = some p → H (bif dn.getD (i0 + j) true then .triv else K (.tup [.b true, svI kd p.1, p.2]) (M.set key (.iter kd all (dn.set (i0 + j) true) (some (i0 + j)))))) ∧ H (bif dn.all (fun q => q) then K (.tup [.b false]) M else .triv)
  | [], i0, e => ⟨fun j p h => by simp at h, e⟩
  | p :: es, i0, e => by
    obtain ⟨e1, e2⟩ := C.fork e
    obtain ⟨h1, h2⟩ := nextT_get C e2
    refine ⟨fun j q h => ?_, h2⟩
    cases j with
    | zero =>
      simp only [List.getElem?_cons_zero, Option.some.injEq] at h
      subst h; exact e1
    | succ j =>
      have := h1 j q (by simpa using h)
      rwa [show i0 + 1 + j = i0 + (j + 1) by omega] at this
theorem evNext_ok (C : Closed H) (I : Inv E n0 w0 h0 h θ M Fr w) {x : SV} {u : Value} {ty : TypeId} {K : SV → Mem → Tree} (rx : Rep h θ x u) (e : H (evNext M x K)) :
    ∃ v w' s M', (Instr.next u false ty).run E.P w = .ok v w' ∧ H (K s M') ∧ Inv E n0 w0 h0 h θ M' Fr w' ∧ Rep h θ s v := by
  unfold evNext at e
  split at e
  · rename_i key
    split at e
    · rename_i kd es dn cur hM
      cases hb : Nat.beq dn.length es.length with
      | false => rw [hb] at e; exact (C.fail e).elim
      | true =>
        rw [hb] at e; simp only [cond_true] at e
        have hlen := Nat.eq_of_beq_eq_true hb
        obtain ⟨f1, f2⟩ := nextT_get C e
        cases rx with
        | iter _ id et =>
          obtain ⟨hd, e1, rb⟩ := I.blk key _ hM
          rw [et] at e1; cases e1
          obtain ⟨id', mid, since, last, seen, ents, ea, g1, g2, hh, hm, rc, bo, hls, hs, hcur⟩ := rb
          simp only [Prod.mk.injEq, Option.some.injEq] at ea
          obtain ⟨-, rfl⟩ := ea
          have hmw := I.agree _ _ hm
          have hg : ∀ {b : Nat} {o : Obj}, w.heap[b]? = some o → (∀ c t f, o ≠ .cells c t f) → (getObj b).run E.P w = .ok o w := fun {b o} hb hn => by
            cases o <;> first | exact absurd rfl (hn _ _ _) | simp [getObj, Sem.run, hb]
          have hguard : (!seen.isEmpty && !ents.isEmpty && ents.all (·.born ≥ last)) = false := by
            cases hz : ents.isEmpty with
            | true => simp
            | false =>
              have hpos : 0 < ents.size := by
                rcases Nat.eq_zero_or_pos ents.size with h | h
                · rw [Array.isEmpty_eq_false_iff] at hz
                  exact absurd (Array.size_eq_zero_iff.1 h) hz
                · exact h
              have hlt := bo.1 0 ents[0] (Array.getElem?_eq_getElem hpos)
              have : ents.all (·.born ≥ last) = false := by
                rw [Array.all_eq_false]
                exact ⟨0, hpos, by simp; omega⟩
              rw [this]; simp
          have hin : ∀ y, y ∈ ents → ∃ j, ents[j]? = some y := fun y hy => Array.getElem?_of_mem hy
          have hold : ((ents.filter fun e => !seen.contains e.born).filter (·.born < since)) = (ents.filter fun e => !seen.contains e.born) := by
            rw [Array.filter_eq_self]
            intro y hy
            obtain ⟨j, hj⟩ := hin y (Array.mem_filter.1 hy).1
            have := bo.1 j y hj
            simp; omega
          have hnew : ((ents.filter fun e => !seen.contains e.born).filter (·.born ≥ since)) = #[] := by
            rw [Array.filter_eq_empty_iff]
            intro y hy
            obtain ⟨j, hj⟩ := hin y (Array.mem_filter.1 hy).1
            have := bo.1 j y hj
            simp; omega
          have hsz : ents.size = es.length := by have := rc.length; simp at this; omega
          have hrun : ∀ (c : Array (Option MapEntry)), c = (if (ents.filter fun e => !seen.contains e.born).isEmpty then #[none] else #[]) ++ ((ents.filter fun e => !seen.contains e.born) ++ (#[] : Array MapEntry)).map some →
              ∀ kk w1 o, (choose (.mapNext c.size)).run E.P w = .ok kk w1 → c[kk]? = some o →
              (Instr.next (.pointer (some ⟨id, 0, none⟩)) false ty).run E.P w = (match o with
                | some e => (do setObj id (.mapIter (some mid) since (seen.push e.born) last); pure (.tuple #[.bool true, e.key, e.val]) : Sem Value)
                | none => pure (.tuple #[.bool false])).run E.P w1 := fun c hc kk w1 o hch hk => by
            subst hc
            simp only [Instr.next, Sem.run_bind, hg hh (by simp), Result.andThen_ok, hg hmw (by simp), hguard, Bool.false_eq_true, if_false, hold, hnew, hch, hk]
            cases o <;> rfl
          cases hz : (ents.filter fun e => !seen.contains e.born).isEmpty with
          | true =>
            have hnil : (ents.filter fun e => !seen.contains e.born) = #[] := by simpa using hz
            have hall : dn.all (fun q => q) = true := by
              rw [List.all_eq_true]
              intro q hq
              obtain ⟨j, hj⟩ := List.getElem?_of_mem hq
              have hjl := (List.getElem?_eq_some_iff.1 hj).1
              have hje : j < ents.size := by omega
              have h1 := hs j ents[j] (Array.getElem?_eq_getElem hje)
              rw [List.getD_eq_getElem?_getD, hj] at h1
              have h2 := (Array.filter_eq_empty_iff.1 hnil) ents[j] (Array.getElem_mem hje)
              simp only [Option.getD_some] at h1
              rw [← h1]; simpa using h2
            rw [hall] at f2
            have := hrun #[none] (by rw [hnil]; simp) 0 w none (by simp [run_choose, Question.forced]) rfl
            exact ⟨_, w, _, M, this, f2, I, .tup [.b false] [.bool false] (.cons _ _ _ _ (.b false) .nil)⟩
          | false =>
            have hpos : 0 < (ents.filter fun e => !seen.contains e.born).size := by
              rcases Nat.eq_zero_or_pos (ents.filter fun e => !seen.contains e.born).size with h | h
              · rw [Array.isEmpty_eq_false_iff] at hz
                exact absurd (Array.size_eq_zero_iff.1 h) hz
              · exact h
            obtain ⟨c, hc⟩ : ∃ c : Array (Option MapEntry), c = (if (ents.filter fun e => !seen.contains e.born).isEmpty then #[none] else #[]) ++ ((ents.filter fun e => !seen.contains e.born) ++ (#[] : Array MapEntry)).map some := ⟨_, rfl⟩
            have hc2 : c = (ents.filter fun e => !seen.contains e.born).map some := by rw [hc, hz]; simp
            have hcs : c.size = (ents.filter fun e => !seen.contains e.born).size := by rw [hc2]; simp
            obtain ⟨kk, d, hkk, hch⟩ : ∃ kk d, kk < c.size ∧ (choose (.mapNext c.size)).run E.P w = .ok kk { w with drawn := d } := by
              rw [run_choose]
              by_cases hf : (Question.mapNext c.size).forced = true
              · rw [if_pos hf]; exact ⟨0, w.drawn, by omega, rfl⟩
              · rw [if_neg hf]; exact ⟨_, _, Nat.mod_lt _ (by omega), rfl⟩
            have hkf : kk < (ents.filter fun e => !seen.contains e.born).size := by omega
            obtain ⟨en, hen⟩ : ∃ en, (ents.filter fun e => !seen.contains e.born)[kk]? = some en := ⟨_, Array.getElem?_eq_getElem hkf⟩
            have hck : c[kk]? = some (some en) := by rw [hc2, Array.getElem?_map, hen]; rfl
            have hmem := Array.mem_filter.1 (Array.mem_of_getElem? hen)
            obtain ⟨j, hj⟩ := hin en hmem.1
            have hjl : j < ents.size := (Array.getElem?_eq_some_iff.1 hj).1
            have hns : seen.contains en.born = false := by simpa using hmem.2
            have hdn : dn.getD j true = false := by rw [← hs j en hj]; exact hns
            obtain ⟨p, hp⟩ : ∃ p, es[j]? = some p := ⟨_, List.getElem?_eq_getElem (by omega)⟩
            obtain ⟨en', q1, q2, q3, q4⟩ := rc.get hp
            rw [Array.getElem?_toList, hj] at q1
            cases q1
            have f1 := f1 j p hp
            rw [Nat.zero_add, hdn] at f1
            have hset := Go.MapKept.heap_set (w := { w with drawn := d }) (o' := .mapIter (some mid) since (seen.push en.born) last) hh
            have hb' : BlkOk h θ { w with drawn := d, heap := w.heap.setIfInBounds id (.mapIter (some mid) since (seen.push en.born) last) } n0 (.iter kd es (dn.set j true) (some j)) (.pointer (some ⟨id, 0, none⟩), some id) := by
              refine ⟨id, mid, since, last, seen.push en.born, ents, rfl, g1, g2, hset.1, hm, rc, bo, hls, fun i y hy => ?_, fun i hi => ?_⟩
              · have hd1 := hs i y hy
                have hil : i < dn.length := by have := (Array.getElem?_eq_some_iff.1 hy).1; omega
                by_cases hij : j = i
                · subst hij
                  rw [hj] at hy; cases hy
                  rw [List.getD_eq_getElem?_getD, List.getElem?_set_self (by omega)]
                  simp
                · rw [List.getD_eq_getElem?_getD, List.getElem?_set_ne hij, ← List.getD_eq_getElem?_getD, ← hd1]
                  have hne : y.born ≠ en.born := fun h => hij (bo.2 j i en y hj hy h.symm)
                  rw [Bool.eq_iff_iff]
                  simp only [Array.contains_iff_mem, Array.mem_push]
                  exact ⟨fun h => h.resolve_right hne, .inl⟩
              · cases hi; exact ⟨en, hj, by simp⟩
            have I2 := (I.drawn d).upd hM (fun _ _ => by simp) (b' := .iter kd es (dn.set j true) (some j)) (fun _ _ => by simp) et (w' := { w with drawn := d, heap := w.heap.setIfInBounds id (.mapIter (some mid) since (seen.push en.born) last) }) ⟨rfl, rfl, rfl, by simp, fun i hi => by simp [Array.getElem?_setIfInBounds_ne (show id ≠ i by omega)]⟩ (by simp) hset.2 hb'
            have hr := hrun c hc kk _ _ hch hck
            refine ⟨.tuple #[.bool true, en.key, en.val], _, _, _, ?_, f1, I2, .tup [.b true, svI kd p.1, p.2] [.bool true, en.key, en.val] (.cons _ _ _ _ (.b true) (.cons _ _ _ _ (by rw [q2]; exact .v _ q3) (.cons _ _ _ _ q4 .nil)))⟩
            rw [hr]
            have hso : (setObj id (.mapIter (some mid) since (seen.push en.born) last)).run E.P { w with drawn := d } = .ok () { w with drawn := d, heap := w.heap.setIfInBounds id (.mapIter (some mid) since (seen.push en.born) last) } := by
              simp [setObj, Sem.run, hh]
            simp only [Sem.run_bind, hso, Result.andThen_ok, Sem.run_pure]
    · exact (C.fail e).elim
  · exact (C.fail e).elim
theorem wpIn_of {P : Program} {o : Oper} {a : Act} {w : World} {next : Act → World → Prop} {Q : Exit → Act → World → Prop} (hd : ∀ c, o.op ≠ .defer c) (h : o.uponIn (FW r) 0 P a next Q ((execOp a.eval o).run P w)) : o.wpIn (FW r) 0 P a w next Q :=
  ⟨fun _ _ => trivial, by rw [Oper.semAt_eq _ _ _ hd]; exact h⟩
theorem calls_wide {P : Program} {f : FuncId} {args : Array Value} {w : World} {R : Ending → World → Prop} (h : Calls P f args w R) : ((FW r).depth.isSome = true → 1 ≤ 0) ∧ CallsIn (FW r) (0 - 1) P f args w R :=
  ⟨fun h => (by simp [FW, Fence.wide] at h), callsIn_wide.2 h⟩
/-- one operation, its effects let -/
theorem evOp_ok (ok : EnvOk E) (C : Closed H) {hk : Hooks} (hc : HooksOk E n0 w0 h0 H hk) {ops : Array Oper} {o : Oper} {s : St} {K : St → Tree} {Kp : KT} {a : Act} (R : SRel E n0 w0 h0 h θ s a w) (e : H (evOp E hk true ops o s.M s K Kp))
    {next : Act → World → Prop} {Q : Exit → Act → World → Prop}
    (hn : ∀ s' a' w' h' θ', SRel E n0 w0 h0 h' θ' s' a' w' → h.le h' → θ.le θ' → s.κ ≤ s'.κ → s'.n = s.n → a'.defers = a.defers → H (K s') → next a' w')
    (hp : ∀ v u M' κ' w' h' θ', Inv E n0 w0 h0 h' θ' M' (fun k => κ' ≤ k) w' → Rep h' θ' v u → h.le h' → θ.le θ' → s.κ ≤ κ' → H (Kp v M' κ') → Q (.panic [{ v := u, recovered := false }]) a w') :
    (Region.wanted o (yielded ops a.tmps) = true ∧ o.wpIn (FW r) 0 E.P a w next Q) ∨ (Region.wanted o (yielded ops a.tmps) = false ∧ next (a.put o.dst undef) w) := by
  unfold evOp at e
  -- what is put
  have put : ∀ {v : SV} {u : Value} {M' : Mem} {κ' : Nat} {h' : Hp} {θ' : Th} {w' : World}, s.κ ≤ κ' → Inv E n0 w0 h0 h' θ' M' (fun k => κ' ≤ k) w' → h.le h' → θ.le θ' → Rep h' θ' v u →
      H (putK s.n s.T o.dst v fun T => K ⟨T, M', κ', s.n⟩) → next (a.put o.dst u) w' := fun {v u M' κ' h' θ' w'} hκ I' hh ht ru e => by
    obtain ⟨e, hd⟩ := putK_holds C e
    exact hn ⟨putT s.T o.dst v, M', κ', s.n⟩ _ w' h' θ' ⟨I', put_rep (R.tmps.mono hh ht) ru (by rw [R.size]; exact hd), by rw [put_size]; exact R.size⟩ hh ht hκ rfl (put_defers _ _ _) e
  have step : H ((stepOp E s.T s.M s.κ o.op).cps true s.M s.κ fun v M => putK s.n s.T o.dst v fun T => K ⟨T, M, s.κ + 1, s.n⟩) → o.wpIn (FW r) 0 E.P a w next Q := fun e => by
    obtain ⟨out, he, e, _⟩ := cps_holds C e
    obtain ⟨nx, u, w', h', θ', hr, hnx, hh, ht, I', ru⟩ := step_sound R.inv (Nat.le_refl _) R.tmps he
    have I2 : Inv E n0 w0 h0 h' θ' (out.mem s.M s.κ) (fun k => s.κ + 1 ≤ k) w' := I'.less (fun _ _ e => e) (fun k hk => ⟨by omega, by omega⟩)
    have := put (by omega) I2 hh ht ru e
    refine wpIn_of (fun c hc => by rw [hc] at he; cases he) ?_
    rw [hr]
    rcases hnx with rfl | ⟨rfl, rfl⟩
    · exact this
    · exact this
  split at e
  · exact (C.fail e).elim
  · rename_i hg
    refine .inr ⟨guard_ok R.tmps hg, ?_⟩
    exact put (κ' := s.κ + 1) (by omega) (R.inv.less (fun _ _ e => e) (fun k hk => by omega)) (.refl _) (.refl _) .undef e
  · rename_i hg
    refine .inl ⟨guard_ok R.tmps hg, ?_⟩
    split at e
    · rename_i c hop
      split at e
      · rename_i f hcal
        split at e
        · rename_i g args hca
          obtain ⟨hgc, e⟩ := holds_need C e
          obtain ⟨us, ru, hrun⟩ := callee_run ok R.tmps hcal hca hgc o.type
          have hex : (execOp a.eval o).run E.P w = .ok (.enter g us.toArray) w := by
            obtain ⟨dst, op, typ, pos, after, guard⟩ := o
            simp only at hop; subst hop
            exact hrun w
          refine wpIn_of (fun c' hc' => by rw [hop] at hc'; cases hc') ?_
          rw [hex]
          refine calls_wide ?_
          unfold evCallOp at e
          split at e
          · rename_i S hS
            split at e
            · rename_i args' hl
              split at e
              · rename_i pre x hr
                obtain ⟨rfl, e⟩ := holds_need C e
                refine (spec_ok ok R.inv hS hl hr ru).mono fun en w' ⟨v, he, wf, ⟨h1, q1, q2, q3⟩, hflat⟩ => ?_
                subst he
                split at e
                · rename_i hk
                  have e := C.letv e x rfl wf
                  rw [hk] at q2
                  exact put (κ' := s.κ + 1) (by omega) (q2.less (fun _ _ e => e) (fun k hk => by omega)) q1 (.refl _) q3 e
                · have e := C.letv e x rfl wf
                  rcases holds_bif e with ⟨hf, e⟩ | ⟨_, e⟩
                  · obtain ⟨h2, q4, q5, q6⟩ := hflat hf
                    exact put (κ' := s.κ + 1) (by omega) (q5.less (fun _ _ e => e) (fun k hk => by omega)) q4 (.refl _) q6 e
                  · exact put (κ' := s.κ + 1) (by omega) (q2.less (fun _ _ e => e) (fun k hk => by omega)) q1 (.refl _) q3 e
              · exact (C.fail e).elim
            · split at e
              · rename_i args' hl
                split at e
                · rename_i pre x hr
                  obtain ⟨rfl, e⟩ := holds_need C e
                  refine (spec_look ok R.inv hS hl hr ru).mono fun en w' ⟨v, he, wf, hflat⟩ => ?_
                  subst he
                  have e := C.letv e x rfl wf
                  obtain ⟨hf, e⟩ := holds_need C e
                  obtain ⟨h2, q4, q5, q6⟩ := hflat hf
                  exact put (κ' := s.κ + 1) (by omega) (q5.less (fun _ _ e => e) (fun k hk => by omega)) q4 (.refl _) q6 e
                · exact (C.fail e).elim
              · exact (C.fail e).elim
          · refine (hc.call g args s.M s.κ _ _ e h θ w us R.inv ru).mono fun en w' ⟨v, r, M', κ', h', θ', he, hh, ht, hκ, I', rv⟩ => ?_
            rcases he with ⟨rfl, e⟩ | ⟨rfl, e⟩
            · exact put hκ I' hh ht rv e
            · exact hp _ _ _ _ _ _ _ I' rv hh ht hκ e
        · split at e
          · rename_i key hy
            simp only [cond_true] at e
            have rf := opd_rep R.tmps f
            rw [hy] at rf
            obtain ⟨id, ts, hv, et⟩ : ∃ id ts, a.eval f = .func (.yield id) #[] #[] ∧ θ key = some (.func (.yield id) ts #[], some id) := by
              generalize a.eval f = u at rf
              cases rf; exact ⟨_, _, rfl, ‹_›⟩
            have ru : RepL h θ (c.args.toList.map (opd s.T)) (c.args.toList.map a.eval) := opds_rep R.tmps _
            obtain ⟨fn', tmps', as', bd', hy1, hy2⟩ := hc.yld key _ s.M s.κ _ _ e h θ w _ id ts R.inv ru et
            have hex : (execOp a.eval o).run E.P w = .ok (.round id fn' tmps' as' bd') w := by
              obtain ⟨dst, op, typ, pos, after, guard⟩ := o
              simp only at hop; subst hop
              have harr : #[] ++ c.args.map a.eval = (c.args.toList.map a.eval).toArray := by apply Array.ext'; simp
              simp only [execOp, resolve, hcal, hv, Deferred.ofValue, Sem.run_bind, Sem.run_pure, Result.andThen_ok, invoke, harr]
              exact hy1
            refine wpIn_of (fun c' hc' => by rw [hop] at hc'; cases hc') ?_
            rw [hex]
            refine ⟨fun h => (by simp [FW, Fence.wide] at h), RoundIn.mono (show RoundIn (FW r) (0 - 1) E.P id fn' tmps' as' bd' w _ from hy2) fun en w' ⟨v, r, M', κ', h', θ', he, hh, ht, hκ, I', rv⟩ => ?_⟩
            rcases he with ⟨rfl, e⟩ | ⟨rfl, e⟩
            · exact put hκ I' hh ht rv e
            · exact hp _ _ _ _ _ _ _ I' rv hh ht hκ e
          · exact (C.fail e).elim
      · exact step e
    · rename_i op t x y ty hop
      split at e
      · rename_i q hq
        simp only [cond_true] at e
        obtain ⟨r, hr, hqr⟩ := nilCmp_ok (w := w) (x := x) (y := y) R.inv (opd_rep R.tmps x) (opd_rep R.tmps y) hq
        have hex : (execOp a.eval o).run E.P w = .ok (.value (.bool r)) w := by
          obtain ⟨dst, op', typ, pos, after, guard⟩ := o
          simp only at hop; subst hop
          simp only [execOp]
          simp only [Sem.run_bind] at hr ⊢
          rw [hr]; rfl
        have I2 : Inv E n0 w0 h0 h θ s.M (fun k => s.κ + 1 ≤ k) w := R.inv.less (fun _ _ e => e) (fun k hk => by omega)
        refine wpIn_of (fun c' hc' => by rw [hop] at hc'; cases hc') ?_
        rw [hex]
        show next (a.put o.dst (.bool r)) w
        cases q with
        | true =>
          simp only [cond_true] at e
          obtain ⟨e1, e2⟩ := C.fork e
          cases r with
          | true => exact put (by omega) I2 (.refl _) (.refl _) (.b true) e1
          | false => exact put (by omega) I2 (.refl _) (.refl _) (.b false) e2
        | false =>
          simp only [cond_false] at e
          rw [hqr rfl]
          exact put (by omega) I2 (.refl _) (.refl _) (.b _) e
      · exact step e
    · rename_i x hop
      split at e
      · rename_i t y hx
        simp only [cond_true] at e
        have rx := opd_rep R.tmps x
        rw [hx] at rx
        have hv : a.eval x = .iface t y := by
          generalize a.eval x = u at rx
          cases rx; rfl
        have hex : (execOp a.eval o).run E.P w = .halt (.panic (.iface t y)) w := by
          obtain ⟨dst, op', typ, pos, after, guard⟩ := o
          simp only at hop; subst hop
          simp [execOp, hv, Instr.panic, goPanic]
        refine wpIn_of (fun c' hc' => by rw [hop] at hc'; cases hc') ?_
        rw [hex]
        exact hp _ _ s.M (s.κ + 1) w h θ (R.inv.less (fun _ _ e => e) (fun k hk => by omega)) (.v _ trivial) (.refl _) (.refl _) (by omega) e
      · exact (C.fail e).elim
    · rename_i x isS hop
      obtain ⟨hq, e⟩ := holds_need C e
      obtain rfl : isS = false := by simpa using hq
      obtain ⟨v, w', sv, M', hr, e, I', rv⟩ := evNext_ok (ty := o.type) C R.inv (opd_rep R.tmps x) e
      have hex : (execOp a.eval o).run E.P w = .ok (.value v) w' := by
        obtain ⟨dst, op', typ, pos, after, guard⟩ := o
        simp only at hop; subst hop
        simp only [execOp, Sem.run_bind, hr, Result.andThen_ok, Sem.run_pure]
      refine wpIn_of (fun c' hc' => by rw [hop] at hc'; cases hc') ?_
      rw [hex]
      exact put (κ' := s.κ + 1) (by omega) (I'.less (fun _ _ e => e) (fun k hk => by omega)) (.refl _) (.refl _) rv e
    · exact step e

/-- a region in the order of the text -/
theorem evOps_ok (ok : EnvOk E) (C : Closed H) {hk : Hooks} (hc : HooksOk E n0 w0 h0 H hk) {ops : Array Oper} {Kp : KT} {Q : Exit → Act → World → Prop} : ∀ (rest : List Oper) (j : Nat), ops.toList.drop j = rest →
    ∀ {s : St} {K : St → Tree} {a : Act} {w : World} {h : Hp} {θ : Th}, SRel E n0 w0 h0 h θ s a w → H (evOps E hk ops Kp rest s K) →
      (∀ s' a' w' h' θ', SRel E n0 w0 h0 h' θ' s' a' w' → h.le h' → θ.le θ' → s.κ ≤ s'.κ → s'.n = s.n → a'.defers = a.defers → H (K s') → Q .normal a' w') →
      (∀ v u M' κ' a' w' h' θ', Inv E n0 w0 h0 h' θ' M' (fun k => κ' ≤ k) w' → Rep h' θ' v u → h.le h' → θ.le θ' → s.κ ≤ κ' → a'.defers = a.defers → H (Kp v M' κ') → Q (.panic [{ v := u, recovered := false }]) a' w') →
      wpOpsIn (FW r) 0 E.P ops Q (List.range' j rest.length) a w
  | [], j, hj, s, K, a, w, h, θ, R, e, hn, hp => hn s a w h θ R (.refl _) (.refl _) (Nat.le_refl _) rfl rfl e
  | o :: rest, j, hj, s, K, a, w, h, θ, R, e, hn, hp => by
    have hlen : j < ops.toList.length := by
      rcases Nat.lt_or_ge j ops.toList.length with h | h
      · exact h
      · rw [List.drop_of_length_le h] at hj; cases hj
    rw [List.drop_eq_getElem_cons hlen] at hj
    injection hj with ho hrest
    have hoj : ops[j]? = some o := by
      rw [← ho, Array.getElem?_eq_getElem (by simpa using hlen)]; simp
    rw [List.length_cons, List.range'_succ]
    simp only [wpOpsIn, hoj]
    have := evOp_ok (r := r) ok C hc (Q := Q) R e (next := wpOpsIn (FW r) 0 E.P ops Q (List.range' (j + 1) rest.length)) (fun s' a' w' h' θ' R' hh ht hκ hsn hd e' =>
      evOps_ok ok C hc rest (j + 1) hrest R' e' (fun s2 a2 w2 h2 θ2 R2 hh2 ht2 hκ2 hsn2 hd2 e2 =>
        hn s2 a2 w2 h2 θ2 R2 (hh.trans hh2) (ht.trans ht2) (Nat.le_trans hκ hκ2) (hsn2.trans hsn) (hd2.trans hd) e2)
        (fun v u M' κ' a2 w2 h2 θ2 I2 ru hh2 ht2 hκ2 hd2 e2 => hp v u M' κ' a2 w2 h2 θ2 I2 ru (hh.trans hh2) (ht.trans ht2) (Nat.le_trans hκ hκ2) (hd2.trans hd) e2))
      (fun v u M' κ' w' h' θ' I' ru hh ht hκ e' => hp v u M' κ' a w' h' θ' I' ru hh ht hκ rfl e')
    rcases this with ⟨hw, hwp⟩ | ⟨hw, hnx⟩
    · rw [if_pos hw]; exact hwp
    · rw [if_neg (by rw [hw]; simp)]; exact ⟨fun _ _ => trivial, hnx⟩
end seq
end Go.Proofs.YtchljgmcempedaaGreatDoor
