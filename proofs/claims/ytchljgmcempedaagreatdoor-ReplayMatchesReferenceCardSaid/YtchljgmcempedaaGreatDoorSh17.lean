/- An operation without effects leans on what it reads alone (nothing is claimed here). -/
import Derived.Test.YtchljgmcempedaaGreatDoorSh16
set_option linter.unusedVariables false
set_option linter.unusedSimpArgs false
namespace Go.Proofs.YtchljgmcempedaaGreatDoor
open Go Go.RowKit

/-- more memory -/
def Mem.le (M M' : Mem) : Prop := ∀ k b, M k = some b → M' k = some b

section mono
variable {E : Env} {M M' : Mem} {κ : Nat}

theorem loadS_mono (hM : M.le M') {t : TypeId} {p s : SV} (e : loadS E M t p = some s) : loadS E M' t p = some s := by
  cases p <;> simp only [loadS] at e ⊢ <;> first | exact e | skip
  all_goals
    cases hk : M _ with
    | none => rw [hk] at e; cases e
    | some b => rw [hk] at e; rw [hM _ _ hk]; exact e
theorem lift1_mono (hM : M.le M') {s s' : SV} (e : lift1 M s = some s') : lift1 M' s = some s' := by
  cases s <;> simp only [lift1] at e ⊢ <;> first | exact e | skip
  cases hk : M _ with
  | none => rw [hk] at e; cases e
  | some b => rw [hk] at e; rw [hM _ _ hk]; exact e
theorem lift1L_mono (hM : M.le M') : ∀ {ss ss' : List SV}, lift1L M ss = some ss' → lift1L M' ss = some ss'
  | [], ss', e => e
  | s :: r, ss', e => by
    simp only [lift1L] at e ⊢
    cases h1 : lift1 M s with
    | none => rw [h1] at e; cases e
    | some x =>
      rw [h1] at e; rw [lift1_mono hM h1]
      simp only [Option.bind_some] at e ⊢
      cases h2 : lift1L M r with
      | none => rw [h2] at e; cases e
      | some y => rw [h2] at e; rw [lift1L_mono hM h2]; exact e
theorem liftA_mono (hM : M.le M') {s s' : SV} (e : liftA M s = some s') : liftA M' s = some s' := by
  cases s with
  | agg cs =>
    simp only [liftA] at e ⊢
    cases h2 : lift1L M cs with
    | none => rw [h2] at e; cases e
    | some y => rw [h2] at e; rw [lift1L_mono hM h2]; exact e
  | arr k n l => cases e
  | own k => exact lift1_mono (s := .own k) hM e
  | _ => exact e
theorem liftL_mono (hM : M.le M') : ∀ {ss ss' : List SV}, liftL M ss = some ss' → liftL M' ss = some ss'
  | [], ss', e => e
  | s :: r, ss', e => by
    simp only [liftL] at e ⊢
    cases h1 : liftA M s with
    | none => rw [h1] at e; cases e
    | some x =>
      rw [h1] at e; rw [liftA_mono hM h1]
      simp only [Option.bind_some] at e ⊢
      cases h2 : liftL M r with
      | none => rw [h2] at e; cases e
      | some y => rw [h2] at e; rw [liftL_mono hM h2]; exact e
theorem listS_mono (hM : M.le M') {s : SV} {p : (τ : ETy) × List τ.T} (e : listS M s = some p) : listS M' s = some p := by
  cases s <;> simp only [listS] at e ⊢ <;> first | exact e | skip
  cases hk : M _ with
  | none => rw [hk] at e; cases e
  | some b => rw [hk] at e; rw [hM _ _ hk]; exact e
theorem lenS_mono (hM : M.le M') {s : SV} {n : Nat} (e : lenS M s = some n) : lenS M' s = some n := by
  have other : (match listS M s with | some ⟨_, l⟩ => some l.length | none => none) = some n → (match listS M' s with | some ⟨_, l⟩ => some l.length | none => none) = some n := fun e => by
    cases hl : listS M s with
    | none => rw [hl] at e; cases e
    | some p => rw [hl] at e; rw [listS_mono hM hl]; exact e
  unfold lenS at e ⊢
  split at e
  · exact e
  · exact e
  · exact other e
theorem listOf_mono (hM : M.le M') {τ : ETy} {x : SV} {l : List τ.T} (e : listOf M τ x = some l) : listOf M' τ x = some l := by
  have other : (listS M x).bind (fun p => castL p.1 τ p.2) = some l → (listS M' x).bind (fun p => castL p.1 τ p.2) = some l := fun e => by
    cases hl : listS M x with
    | none => rw [hl] at e; cases e
    | some p => rw [hl] at e; rw [listS_mono hM hl]; exact e
  unfold listOf at e ⊢
  split at e
  · exact e
  · exact other e
theorem elemS_mono (hM : M.le M') {x : SV} {i : Int} {p : Nat × Nat × SV} (e : elemS M x i = some p) : elemS M' x i = some p := by
  cases x <;> simp only [elemS] at e ⊢ <;> first | exact e | skip
  cases hk : M _ with
  | none => rw [hk] at e; cases e
  | some b => rw [hk] at e; rw [hM _ _ hk]; exact e
theorem rowSets_mono (hM : M.le M') {τ : ETy} : ∀ {parts : List (Nat × SV)} {l l' : List τ.T}, rowSets M τ l parts = some l' → rowSets M' τ l parts = some l'
  | [], l, l', e => e
  | p :: r, l, l', e => by
    simp only [rowSets] at e ⊢
    cases h1 : rowSet M τ l p with
    | none => rw [h1] at e; cases e
    | some x =>
      rw [h1] at e
      have : rowSet M' τ l p = some x := by
        unfold rowSet at h1 ⊢
        cases h2 : liftA M p.2 with
        | none => rw [h2] at h1; cases h1
        | some y => rw [h2] at h1; rw [liftA_mono hM h2]; exact h1
      rw [this]
      simp only [Option.bind_some] at e ⊢
      exact rowSets_mono hM e

/-- is a value, no effect -/
def isVal (o : Out) : Prop := ∃ v b, o = .val v b
theorem sliceL_noeff {t : TypeId} {τ : ETy} {l : List τ.T} {lo hi mx : Option SV} {M1 : Mem} {out : Out} (e : (sliceL E t τ l lo hi mx fun v => .eff v M1).eval = some out) : ¬ isVal out := by
  unfold sliceL at e
  cases h : sliceTy E t τ with
  | false => rw [h] at e; cases e
  | true =>
    rw [h] at e; simp only [cond_true] at e
    split at e
    · obtain ⟨_, e⟩ := need_eval e; cases e; rintro ⟨v, b, h⟩; cases h
    · obtain ⟨_, e⟩ := need_eval e; cases e; rintro ⟨v, b, h⟩; cases h
    · cases e
theorem insertS_noeff {t : TypeId} {m k x : SV} {out : Out} (e : (insertS E M t m k x).eval = some out) : ¬ isVal out := by
  unfold insertS at e
  split at e
  · rename_i kd el key kd' n hk
    split at e
    · rename_i kd'' es hM
      cases hq : (kd == kd' && (kd == kd'' && notIn n es)) with
      | false => rw [hq] at e; cases e
      | true => rw [hq] at e; cases e; rintro ⟨v, b, h⟩; cases h
    · cases e
  · cases e
theorem copyS_noeff {el : TypeId} {τ : ETy} {d : SV} {lx : List τ.T} {out : Out} (e : (copyS E M el τ d lx).eval = some out) : ¬ isVal out := by
  unfold copyS at e
  split at e
  · split at e
    · split at e
      · cases e; rintro ⟨v, b, h⟩; cases h
      · cases e
    · cases e
  · split at e
    · split at e
      · rename_i sz _ _ _ _ _ _ _ _ _
        cases hq : Nat.beq sz (szE τ) with
        | false => rw [hq] at e; cases e
        | true => rw [hq] at e; cases e; rintro ⟨v, b, h⟩; cases h
      · cases e
    · cases e
  · cases e
theorem rangeS_noeff {t : TypeId} {m : SV} {out : Out} (e : (rangeS E M t m κ).eval = some out) : ¬ isVal out := by
  unfold rangeS at e
  split at e
  · split at e
    · rename_i kd _ _ _ _ kd' es _
      cases hq : kd == kd' with
      | false => rw [hq] at e; cases e
      | true => rw [hq] at e; cases e; rintro ⟨v, b, h⟩; cases h
    · cases e
  · cases e
theorem entryS_mono (hM : M.le M') {x s : SV} (e : entryS M x = some s) : entryS M' x = some s := by
  unfold entryS at e ⊢
  split at e
  · split at e
    · rename_i hk
      rw [hM _ _ hk]; exact e
    · cases e
  · cases e
theorem stepOp_mono (hM : M.le M') {T : Tmps} {op : Op} {out : Out} (e : (stepOp E T M κ op).eval = some out) (hv : isVal out) : (stepOp E T M' κ op).eval = some out := by
  have opt : ∀ {f f' : Option SV}, (∀ s, f = some s → f' = some s) → (OpT.ofOpt f).eval = some out → (OpT.ofOpt f').eval = some out := fun {f f'} h e => by
    obtain ⟨v, h1, h2⟩ := ofOpt_eval e
    rw [h v h1, h2]; rfl
  cases op <;> simp only [stepOp] at e ⊢ <;> first | exact e | skip
  case buildSlice t len parts =>
    unfold buildSliceS at e ⊢
    split at e
    · split at e
      · split at e
        · rename_i l hl
          rw [rowSets_mono hM hl]
          simp only
          cases hb : Nat.ble (len * sizeT E _) (2 ^ 24) with
          | false => rw [hb] at e; cases e
          | true =>
            rw [hb] at e; simp only [cond_true] at e ⊢
            split at e
            · exact e
            · cases e; obtain ⟨v, b, h⟩ := hv; cases h
        · cases e
      · cases e
    · exact e
  case insert t m k x => exact absurd hv (insertS_noeff e)
  case mapUpdate t m k x => exact absurd hv (insertS_noeff e)
  case lookup t m k ok =>
    unfold lookupS at e ⊢
    split at e
    · split at e
      · rename_i hk hz
        rw [hM _ _ hk, hz]; exact e
      · cases e
    · cases e
  case load t x => exact opt (fun s h => loadS_mono hM h) e
  case store t x y =>
    split at e
    · cases e; obtain ⟨v, b, h⟩ := hv; cases h
    · cases e
  case slice t x lo hi mx =>
    unfold sliceS at e ⊢
    split at e <;> first | exact e | skip
    rename_i k
    split at e
    · rename_i τ l ty hk
      rw [hM _ _ hk]
      simp only
      unfold sliceOwn at e ⊢
      split at e
      · rename_i b _ _ _ _
        simp only [OpT.eval] at e
        cases hb : (b == 0) with
        | false => rw [hb] at e; exact absurd hv (sliceL_noeff e)
        | true =>
        rw [hb] at e
        cases hq : sliceTy E t τ with
        | false => rw [hq] at e; cases e
        | true => rw [hq] at e; cases e; obtain ⟨v, b, h⟩ := hv; cases h
      · exact e
      · exact absurd hv (sliceL_noeff e)
    · rename_i τ l hk
      rw [hM _ _ hk]; exact e
    · cases e
  case indexAddr t x i =>
    unfold indexAddrS at e ⊢
    split at e
    · exact e
    · split at e
      · rename_i hp
        rw [elemS_mono hM hp]; exact e
      · cases e
    · cases e
  case call c =>
    split at e
    · unfold builtinS at e ⊢
      split at e
      · split at e
        · exact e
        · exact e
        · split at e
          · rename_i hl
            rw [lenS_mono hM hl]; exact e
          · cases e
        · cases e
      · split at e
        · rename_i el τ t' he ht'
          cases hx : isSliceT E t' with
          | false => rw [hx] at e; simp only [cond_false] at e ⊢; exact e
          | true =>
            rw [hx] at e; simp only [cond_true] at e ⊢
            split at e
            · rename_i lx hl
              rw [listOf_mono hM hl]
              simp only
              unfold appendS at e ⊢
              split at e
              · split at e
                · split at e
                  · obtain ⟨_, e⟩ := need_eval e
                    cases e; obtain ⟨v, b, h⟩ := hv; cases h
                  · cases e
                · cases e
              · exact e
              · exact e
              · cases e
            · cases e
        · cases e
      · exact e
      · split at e
        · rename_i el τ t' he ht'
          cases hx : isSliceT E t' with
          | false => rw [hx] at e; cases e
          | true =>
            rw [hx] at e; simp only [cond_true] at e
            split at e
            · exact absurd hv (copyS_noeff e)
            · cases e
        · cases e
      · exact e
      · exact e
      · cases e
    · cases e
  case range t m => exact absurd hv (rangeS_noeff e)
  case entry x => exact opt (fun s h => entryS_mono hM h) e
end mono

/-! the slots that are read -/
section congr
variable {E : Env} {M : Mem} {κ : Nat} {T T' : Tmps}

theorem mem_tmpsOf {t : Nat} : ∀ {l : List Operand}, Operand.tmp t ∈ l → t ∈ tmpsOf l
  | x :: l, h => by
    rcases List.mem_cons.1 h with rfl | h
    · simp [tmpsOf]
    · have := mem_tmpsOf h
      cases x <;> simp [tmpsOf, this]
theorem opd_congr {l : List Operand} (h : ∀ t, t ∈ tmpsOf l → T t = T' t) {x : Operand} (hx : x ∈ l) : opd T x = opd T' x := by
  cases x with
  | tmp t => exact h t (mem_tmpsOf hx)
  | _ => rfl
theorem stepOp_congr {op : Op} (h : ∀ x, x ∈ op.operands.toList → opd T x = opd T' x) : stepOp E T M κ op = stepOp E T' M κ op := by
  cases op <;> simp only [stepOp] <;> first | rfl | skip
  case move x => rw [h x (by simp [Op.operands])]
  case assign x => rw [h x (by simp [Op.operands])]
  case pick c x y => rw [h c (by simp [Op.operands]), h x (by simp [Op.operands]), h y (by simp [Op.operands])]
  case box t x => rw [h x (by simp [Op.operands])]
  case build t parts =>
    have : (parts.toList.map fun p => (p.1, opd T p.2)) = (parts.toList.map fun p => (p.1, opd T' p.2)) := List.map_congr_left fun p hp => by
      rw [h p.2 (by simp [Op.operands]; exact ⟨p.1, by simpa using hp⟩)]
    rw [this]
  case buildSlice t len parts =>
    have : (parts.toList.map fun p => (p.1, opd T p.2)) = (parts.toList.map fun p => (p.1, opd T' p.2)) := List.map_congr_left fun p hp => by
      rw [h p.2 (by simp [Op.operands]; exact ⟨p.1, by simpa using hp⟩)]
    rw [this]
  case load t x => rw [h x (by simp [Op.operands])]
  case store t x y => rw [h x (by simp [Op.operands]), h y (by simp [Op.operands])]
  case nilCheck x => rw [h x (by simp [Op.operands])]
  case binOp op t x y yt => rw [h x (by simp [Op.operands]), h y (by simp [Op.operands])]
  case unOp op t x => rw [h x (by simp [Op.operands])]
  case convert s d x => rw [h x (by simp [Op.operands])]
  case makeFunc fn first cap =>
    have h1 : first.toList.map (opd T) = first.toList.map (opd T') := List.map_congr_left fun p hp => h p (by simp [Op.operands]; exact .inl (by simpa using hp))
    have h2 : cap.toList.map (opd T) = cap.toList.map (opd T') := List.map_congr_left fun p hp => h p (by simp [Op.operands]; exact .inr (by simpa using hp))
    rw [h1, h2]
  case makeMap t r =>
    have e1 : r.map (opd T) = r.map (opd T') := by
      cases r with
      | none => rfl
      | some x => simp only [Option.map_some]; rw [h x (by simp [Op.operands])]
    rw [e1]
  case insert t m k x => rw [h m (by simp [Op.operands]), h k (by simp [Op.operands]), h x (by simp [Op.operands])]
  case mapUpdate t m k x => rw [h m (by simp [Op.operands]), h k (by simp [Op.operands]), h x (by simp [Op.operands])]
  case lookup t m k ok => rw [h m (by simp [Op.operands]), h k (by simp [Op.operands])]
  case makeSlice t l c => rw [h l (by simp [Op.operands]), h c (by simp [Op.operands])]
  case slice t x lo hi mx =>
    have e1 : lo.map (opd T) = lo.map (opd T') := by
      cases lo with
      | none => rfl
      | some x => simp only [Option.map_some]; rw [h x (by simp [Op.operands])]
    have e2 : hi.map (opd T) = hi.map (opd T') := by
      cases hi with
      | none => rfl
      | some x => simp only [Option.map_some]; rw [h x (by simp [Op.operands])]
    have e3 : mx.map (opd T) = mx.map (opd T') := by
      cases mx with
      | none => rfl
      | some x => simp only [Option.map_some]; rw [h x (by simp [Op.operands])]
    rw [h x (by simp [Op.operands]), e1, e2, e3]
  case fieldAddr s x f => rw [h x (by simp [Op.operands])]
  case field s x f => rw [h x (by simp [Op.operands])]
  case indexAddr t x i => rw [h x (by simp [Op.operands]), h i (by simp [Op.operands])]
  case index t x i => rw [h x (by simp [Op.operands]), h i (by simp [Op.operands])]
  case makeInterface t x => rw [h x (by simp [Op.operands])]
  case range t x => rw [h x (by simp [Op.operands])]
  case entry x => rw [h x (by simp [Op.operands])]
  case extract x i => rw [h x (by simp [Op.operands])]
  case call c =>
    have h1 : c.args.toList.map (opd T) = c.args.toList.map (opd T') := List.map_congr_left fun p hp => h p (by simp [Op.operands, Call.operands]; exact .inr (by simpa using hp))
    rw [h1]
end congr

def Mem.newK (M : Mem) : Option (Nat × Blk) → Mem
  | none => M
  | some p => M.set p.1 p.2
/-- an operation without effects, or a store: its value and its block -/
def valOf (κ : Nat) : Option Out → Option (SV × Option (Nat × Blk))
  | some (.val v b) => some (v, b.map fun b => (κ, b))
  | _ => none
def opEval (E : Env) (ops : Array Oper) (o : Oper) (T : Tmps) (M : Mem) (κ : Nat) : Option (SV × Option (Nat × Blk)) :=
  match guardS ops T o.guard with
  | none => none
  | some false => some (.undef, none)
  | some true => match o.op with
    | .call c => match c.callee with
      | .value f => match calleeS (opd T f) (c.args.toList.map (opd T)) with
        | some (f, args) => bif E.callee f then (match E.spec f with
          | some S => match liftL M args with
            | some args' => match S.run args' with
              | some (true, x) => bif ((keysL args).isEmpty || flatS (S.enc x)) || frozenL M (keysL args) then some (S.enc x, none) else none
              | _ => none
            | none => match liftPL M args with
              | some args' => match S.run args' with
                | some (true, x) => bif flatS (S.enc x) then some (S.enc x, none) else none
                | _ => none
              | none => none
          | none => none) else none
        | none => none
      | _ => valOf κ (stepOp E T M κ o.op).eval
    | .store t a x => (stW E T M t a x).map fun p => (.undef, some p)
    | _ => valOf κ (stepOp E T M κ o.op).eval
theorem valOf_mono {κ : Nat} {x y : Option Out} {r : SV × Option (Nat × Blk)} (h : ∀ out, x = some out → isVal out → y = some out) (e : valOf κ x = some r) : valOf κ y = some r := by
  unfold valOf at e
  split at e
  · rename_i v b
    rw [h _ rfl ⟨v, b, rfl⟩]; exact e
  · cases e
theorem stW_mono {E : Env} {T : Tmps} {M M' : Mem} {t : TypeId} {a x : Operand} {p : Nat × Blk} (hM : M.le M') (e : stW E T M t a x = some p) : stW E T M' t a x = some p := by
  unfold stW at e ⊢
  split at e
  · split at e
    · rename_i hk
      rw [hM _ _ hk]; exact e
    · cases e
  · cases e
theorem stW_see {E : Env} {T : Tmps} {M : Mem} {t : TypeId} {a x : Operand} {p : Nat × Blk} (e : stW E T M t a x = some p) : ∃ b, M p.1 = some b := by
  unfold stW at e
  split at e
  · split at e
    · rename_i hk
      obtain ⟨cs', _, rfl⟩ := Option.map_eq_some_iff.1 e
      exact ⟨_, hk⟩
    · cases e
  · cases e
theorem stW_step {E : Env} {T : Tmps} {M : Mem} {t : TypeId} {a x : Operand} {p : Nat × Blk} {κ : Nat} (e : stW E T M t a x = some p) : (stepOp E T M κ (.store t a x)).eval = some (.eff .undef (M.set p.1 p.2)) := by
  unfold stW at e
  simp only [stepOp, storeS]
  split at e
  · rename_i k off ix n ha
    split at e
    · rename_i cs ty hk
      obtain ⟨cs', h1, rfl⟩ := Option.map_eq_some_iff.1 e
      rw [ha]
      simp only [hk, h1, Option.map_some]
      rfl
    · cases e
  · cases e
theorem liftP_mono {M M' : Mem} (hM : M.le M') {s s' : SV} (e : liftP M s = some s') : liftP M' s = some s' := by
  unfold liftP at e ⊢
  split at e
  · rename_i k off ix n
    split at e
    · rename_i cs ty hk
      obtain ⟨cs', h1, rfl⟩ := Option.map_eq_some_iff.1 e
      simp only [hM _ _ hk]
      have : lift1L M' cs = some cs' := by
        have := liftA_mono (s := .agg cs) (s' := .agg cs') hM (by simp only [liftA, h1]; rfl)
        simp only [liftA] at this
        obtain ⟨x, h2, h3⟩ := Option.map_eq_some_iff.1 this
        cases h3; exact h2
      rw [this]; rfl
    · cases e
  · exact liftA_mono hM e
theorem liftPL_mono {M M' : Mem} (hM : M.le M') : ∀ {ss ss' : List SV}, liftPL M ss = some ss' → liftPL M' ss = some ss'
  | [], ss', e => e
  | s :: ss, ss', e => by
    simp only [liftPL] at e ⊢
    obtain ⟨s', h1, h2⟩ := Option.bind_eq_some_iff.1 e
    obtain ⟨r', h3, rfl⟩ := Option.map_eq_some_iff.1 h2
    rw [liftP_mono hM h1, Option.bind_some, liftPL_mono hM h3]; rfl
theorem liftL_loc {M : Mem} : ∀ {ss ss' : List SV}, liftL M ss = none → liftPL M ss = some ss' → ∀ M', liftL M' ss = none
  | [], ss', e, _, _ => by cases e
  | s :: ss, ss', e, e', M' => by
    simp only [liftL, liftPL] at e e' ⊢
    obtain ⟨s', h1, h2⟩ := Option.bind_eq_some_iff.1 e'
    obtain ⟨r', h3, _⟩ := Option.map_eq_some_iff.1 h2
    have other : liftA M s = some s' → (liftA M' s).bind (fun s => (liftL M' ss).map (s :: ·)) = none := fun h => by
      rw [h, Option.bind_some] at e
      have e : liftL M ss = none := by
        cases hq : liftL M ss with
        | none => rfl
        | some x => rw [hq] at e; cases e
      rw [liftL_loc e h3 M']
      cases liftA M' s <;> rfl
    unfold liftP at h1
    split at h1
    · rfl
    · exact other h1
theorem frozenL_mono {M M' : Mem} (hM : M.le M') : ∀ {ks : List Nat}, frozenL M ks = true → frozenL M' ks = true
  | [], _ => rfl
  | k :: ks, h => by
    simp only [frozenL, Bool.and_eq_true] at h ⊢
    refine ⟨?_, frozenL_mono hM h.2⟩
    have h := h.1
    split at h
    · rename_i hk; rw [hM _ _ hk]
    · cases h
theorem freezeM_frozen {M : Mem} : ∀ {ks : List Nat}, frozenL M ks = true → freezeM M ks = M
  | [], _ => rfl
  | k :: ks, h => by
    simp only [frozenL, Bool.and_eq_true] at h
    have h1 : freeze1 M k = M := by
      have h := h.1
      unfold freeze1
      split at h
      · rename_i hk; rw [hk]
      · cases h
    simp only [freezeM]
    rw [h1]
    exact freezeM_frozen h.2
theorem opEval_mono {E : Env} {ops : Array Oper} {o : Oper} {T : Tmps} {M M' : Mem} {κ : Nat} {r : SV × Option (Nat × Blk)} (hM : M.le M') (e : opEval E ops o T M κ = some r) : opEval E ops o T M' κ = some r := by
  unfold opEval at e ⊢
  split at e
  · cases e
  · exact e
  · split at e
    · split at e
      · split at e
        · rename_i f args hc
          cases hf : E.callee f with
          | false => rw [hf] at e; cases e
          | true =>
            rw [hf] at e; simp only [cond_true] at e ⊢
            split at e
            · split at e
              · rename_i args' hl
                rw [liftL_mono hM hl]
                simp only
                split at e
                · rename_i x hr
                  cases hk : (((keysL args).isEmpty || flatS (_ : SV)) || frozenL M (keysL args)) with
                  | false => rw [hk] at e; cases e
                  | true =>
                    rw [hk] at e
                    rw [Bool.or_eq_true] at hk
                    have : (((keysL args).isEmpty || flatS (Spec.enc _ x)) || frozenL M' (keysL args)) = true := by
                      rw [Bool.or_eq_true]
                      exact hk.imp id (frozenL_mono hM)
                    rw [this]; exact e
                · cases e
              · rename_i hl
                split at e
                · rename_i args' hp
                  rw [liftL_loc hl hp M', liftPL_mono hM hp]; exact e
                · cases e
            · cases e
        · cases e
      · exact valOf_mono (fun out h hv => stepOp_mono hM h hv) e
    · obtain ⟨p, h1, rfl⟩ := Option.map_eq_some_iff.1 e
      rw [stW_mono hM h1]; rfl
    · exact valOf_mono (fun out h hv => stepOp_mono hM h hv) e
theorem opEval_congr {E : Env} {ops : Array Oper} {o : Oper} {T T' : Tmps} {M : Mem} {κ : Nat} (h : ∀ t, t ∈ readsO ops o → T t = T' t) : opEval E ops o T M κ = opEval E ops o T' M κ := by
  have hg : guardS ops T o.guard = guardS ops T' o.guard := by
    unfold guardS
    cases hg : o.guard with
    | none => rfl
    | some p =>
      obtain ⟨j, want⟩ := p
      simp only
      cases hd : (ops[j]?).bind (·.dst) with
      | none => rfl
      | some d =>
        simp only
        rw [h d (by simp [readsO, hg, hd])]
  have ho : ∀ x, x ∈ o.op.operands.toList → opd T x = opd T' x := fun x hx => opd_congr (l := o.op.operands.toList) (fun t ht => h t (by simp [readsO, ht])) hx
  have hs : stepOp E T M κ o.op = stepOp E T' M κ o.op := stepOp_congr ho
  unfold opEval
  rw [hg]
  split
  · rfl
  · rfl
  · split
    · rename_i c hop
      split
      · rename_i f hcal
        have h1 : opd T f = opd T' f := ho f (by rw [hop]; simp [Op.operands, Call.operands, hcal])
        have h2 : c.args.toList.map (opd T) = c.args.toList.map (opd T') := List.map_congr_left fun p hp => ho p (by rw [hop]; simp [Op.operands, Call.operands]; exact .inr (by simpa using hp))
        rw [h1, h2]
      · rw [hs]
    · rename_i t a x hop
      have h1 : opd T a = opd T' a := ho a (by rw [hop]; simp [Op.operands])
      have h2 : opd T x = opd T' x := ho x (by rw [hop]; simp [Op.operands])
      unfold stW
      rw [h1, h2]
    · rw [hs]
end Go.Proofs.YtchljgmcempedaaGreatDoor
