/- The package variables that a row lays (nothing is claimed here). -/
import Derived.Test.YtchljgmcempedaaGreatDoorSh28
set_option linter.unusedVariables false
set_option linter.unusedSimpArgs false
namespace Go.Proofs.YtchljgmcempedaaGreatDoor
open Go Go.RowKit Go.ChangeShapes Go.WideShapes Go.Deep Go.ChangeMaps

/-- fields one behind the other -/
def offsOk (P : Program) : Nat → List Field → Option Nat
  | o, [] => some o
  | o, fd :: fs => bif Nat.beq fd.offset o then offsOk P (o + P.cellsOf fd.type) fs else none
def litInts (k : IntKind) : List (DataW Unit) → Option (List Int)
  | [] => some []
  | .lit (.int k' n) :: r => bif k == k' then (litInts k r).map (n :: ·) else none
  | _ :: _ => none
def svDs (f : TypeId → DataW Unit → Option (List SV)) : List TypeId → List (DataW Unit) → Option (List SV)
  | [], [] => some []
  | t :: ts, d :: ds => (f t d).bind fun a => (svDs f ts ds).map fun r => a ++ r
  | _, _ => none
def svD (P : Program) : Nat → TypeId → DataW Unit → Option (List SV)
  | 0, _, _ => none
  | k + 1, t, d => match P.underlying t, d with
    | some (.int kd), .lit (.int kd' n) => bif kd == kd' then some [.v (.int kd n)] else none
    | some .bool, .lit (.bool q) => some [.b q]
    | some .string, .lit (.string l) => bif Nat.ble l.length lim then some [.v (.string ⟨l.toArray⟩)] else none
    | some (.struct fs), .agg ds => match offsOk P 0 fs.toList with
      | some n => bif Nat.beq n (P.cellsOf t) then svDs (svD P k) (fs.toList.map (·.type)) ds else none
      | none => none
    | some (.array n e), .agg ds => match P.underlying e with
      | some (.int kd) => bif Nat.beq (P.cellsOf e) 1 && (Nat.beq (P.cellsOf t) n && Nat.beq ds.length n) then (litInts kd ds).map fun l => [.arr kd n l] else none
      | _ => bif Nat.beq (P.cellsOf t) (n * P.cellsOf e) then svDs (svD P k) (List.replicate n e) ds else none
    | _, _ => none
section
variable {P : Program} {W : World} {sp : Nat → Bool} {hd : Bool}
/-- the parts that stand one behind the other from o on -/
def Pieces (P : Program) (W : World) (sp : Nat → Bool) (hd : Bool) (n : Nat) (cs : List Value) : Nat → List TypeId → List (DataW Unit × List MemPlace) → Prop
  | _, [], [] => True
  | o, t :: ts, x :: xs => DataW.trod (fun _ => ()) P W 0 sp hd n t ((cs.drop o).take (P.cellsOf t)) = some x ∧ Pieces P W sp hd n cs (o + P.cellsOf t) ts xs
  | _, _, _ => False
def sumC (P : Program) : List TypeId → Nat
  | [] => 0
  | t :: ts => P.cellsOf t + sumC P ts
theorem svDs_ok {f : TypeId → DataW Unit → Option (List SV)} {n : Nat} {cs : List Value} (ih : ∀ t d ss, f t d = some ss → ∀ cs p, DataW.trod (fun _ => ()) P W 0 sp hd n t cs = some (d, p) → RepC (Wh W) Th0 ss cs) :
    ∀ {ts : List TypeId} {o : Nat} {xs : List (DataW Unit × List MemPlace)} {ss : List SV}, Pieces P W sp hd n cs o ts xs → svDs f ts (xs.map (·.1)) = some ss → RepC (Wh W) Th0 ss ((cs.drop o).take (sumC P ts))
  | [], o, [], ss, hp, e => by
    cases e; simpa [sumC] using RepC.nil
  | [], o, _ :: _, ss, hp, e => hp.elim
  | _ :: _, o, [], ss, hp, e => hp.elim
  | t :: ts, o, x :: xs, ss, hp, e => by
    simp only [List.map_cons, svDs] at e
    obtain ⟨a, q1, q2⟩ := Option.bind_eq_some_iff.1 e
    obtain ⟨r, q3, rfl⟩ := Option.map_eq_some_iff.1 q2
    have h1 := ih _ _ _ q1 _ x.2 hp.1
    have h2 := svDs_ok ih hp.2 q3
    show RepC _ _ _ (List.take (P.cellsOf t + sumC P ts) _)
    rw [List.take_add, List.drop_drop]
    exact h1.append h2
theorem pieces_struct {n : Nat} {cs : List Value} : ∀ {fs : List Field} {o m : Nat} {xs : List (DataW Unit × List MemPlace)}, offsOk P o fs = some m → xs.length = fs.length →
    (∀ (i : Nat) (f : Field), fs[i]? = some f → DataW.trod (fun _ => ()) P W 0 sp hd n f.type ((cs.drop f.offset).take (P.cellsOf f.type)) = xs[i]?) → Pieces P W sp hd n cs o (fs.map (·.type)) xs ∧ o + sumC P (fs.map (·.type)) = m
  | [], o, m, [], e, hl, h => by cases e; exact ⟨trivial, rfl⟩
  | [], o, m, _ :: _, e, hl, h => by cases hl
  | fd :: fs, o, m, [], e, hl, h => by cases hl
  | fd :: fs, o, m, x :: xs, e, hl, h => by
    simp only [offsOk] at e
    cases hb : Nat.beq fd.offset o with
    | false => rw [hb] at e; cases e
    | true =>
      rw [hb] at e
      have hb := Nat.eq_of_beq_eq_true hb
      obtain ⟨q1, q2⟩ := pieces_struct (xs := xs) e (by simpa using hl) fun i f hf => by simpa using h (i + 1) f (by simpa using hf)
      refine ⟨⟨by have := h 0 fd rfl; rw [hb] at this; exact this, q1⟩, ?_⟩
      simp only [List.map_cons, sumC]; omega
theorem pieces_array {n : Nat} {cs : List Value} {e : TypeId} : ∀ {m k : Nat} {xs : List (DataW Unit × List MemPlace)}, xs.length = m →
    (∀ i, i < m → DataW.trod (fun _ => ()) P W 0 sp hd n e ((cs.drop ((k + i) * P.cellsOf e)).take (P.cellsOf e)) = xs[i]?) → Pieces P W sp hd n cs (k * P.cellsOf e) (List.replicate m e) xs ∧ sumC P (List.replicate m e) = m * P.cellsOf e
  | 0, k, [], hl, h => ⟨trivial, by simp [sumC]⟩
  | 0, k, _ :: _, hl, h => by cases hl
  | m + 1, k, [], hl, h => by cases hl
  | m + 1, k, x :: xs, hl, h => by
    obtain ⟨q1, q2⟩ := pieces_array (m := m) (k := k + 1) (xs := xs) (by simpa using hl) fun i hi => by
      have := h (i + 1) (by omega)
      rw [show k + (i + 1) = k + 1 + i by omega] at this
      simpa using this
    refine ⟨⟨by have := h 0 (by omega); simpa using this, ?_⟩, ?_⟩
    · rw [Nat.succ_mul] at q1; exact q1
    · rw [List.replicate_succ, sumC, q2, Nat.succ_mul]; omega
theorem litInts_ok {k : IntKind} {n : Nat} {e : TypeId} (he : P.underlying e = some (.int k)) : ∀ {xs : List (DataW Unit × List MemPlace)} {cs : List Value} {l : List Int}, litInts k (xs.map (·.1)) = some l → cs.length = xs.length →
    (∀ i, i < xs.length → DataW.trod (fun _ => ()) P W 0 sp hd n e ((cs.drop i).take 1) = xs[i]?) → cs = l.map (Value.int k) ∧ ∀ x, x ∈ l → okI k x
  | [], cs, l, q, hl, h => by
    cases q
    exact ⟨by simpa using List.eq_nil_of_length_eq_zero hl, fun x hx => by cases hx⟩
  | x :: xs, [], l, q, hl, h => by cases hl
  | x :: xs, c :: cs, l, q, hl, h => by
    have h0 := h 0 (by simp)
    simp only [List.drop_zero, List.take_succ_cons, List.take_zero, List.getElem?_cons_zero] at h0
    obtain ⟨m, h1, h2, hw⟩ := DataW.trod_int he h0
    cases h1
    rw [h2] at q
    simp only [List.map_cons, litInts, beq_self_eq_true, cond_true] at q
    obtain ⟨l', q1, rfl⟩ := Option.map_eq_some_iff.1 q
    obtain ⟨r1, r2⟩ := litInts_ok he q1 (by simpa using hl) fun i hi => by simpa using h (i + 1) (by simpa using hi)
    refine ⟨by rw [r1]; rfl, fun y hy => ?_⟩
    rcases List.mem_cons.1 hy with rfl | hy
    · exact wf_okI hw
    · exact r2 y hy
theorem svD_ok : ∀ {k : Nat} {t : TypeId} {d : DataW Unit} {ss : List SV}, svD P k t d = some ss → ∀ {n : Nat} {cs : List Value} {p : List MemPlace}, DataW.trod (fun _ => ()) P W 0 sp hd n t cs = some (d, p) → RepC (Wh W) Th0 ss cs
  | 0, t, d, ss, e, n, cs, p, h => by cases e
  | k + 1, t, d, ss, e, n, cs, p, h => by
    simp only [svD] at e
    split at e
    · rename_i kd kd' m hu
      obtain ⟨hb, rfl⟩ := bif_some e
      obtain ⟨m', rfl, hx, hw⟩ := DataW.trod_int hu h
      cases hx
      exact .cell _ _ _ _ rfl (.v _ (wf_okI hw)) .nil
    · rename_i q hu
      cases e
      obtain ⟨q', rfl, hx⟩ := DataW.trod_bool hu h
      cases hx
      exact .cell _ _ _ _ rfl (.b _) .nil
    · rename_i l hu
      obtain ⟨hb, rfl⟩ := bif_some e
      obtain ⟨s, rfl, hx, _⟩ := DataW.trod_string hu h
      cases hx
      exact .cell _ _ _ _ rfl (.v _ (show s.size ≤ lim by have := Nat.le_of_ble_eq_true hb; simpa using this)) .nil
    · rename_i fs ds hu
      split at e
      · rename_i m hm
        obtain ⟨hb, e⟩ : Nat.beq m (P.cellsOf t) = true ∧ svDs (svD P k) (fs.toList.map (·.type)) ds = some ss := by
          cases hq : Nat.beq m (P.cellsOf t) with
          | true => rw [hq] at e; exact ⟨rfl, e⟩
          | false => rw [hq] at e; cases e
        obtain ⟨xs, n', rfl, hx, hlen, hxs, hall⟩ := DataW.trod_struct hu h
        cases hx
        obtain ⟨q1, q2⟩ := pieces_struct hm (by simpa using hxs) fun i f hf => hall i f (by simpa using hf)
        have := svDs_ok (fun t d ss hq cs p hx => svD_ok hq hx) q1 e
        have hb := Nat.eq_of_beq_eq_true hb
        rw [List.drop_zero, show sumC P (fs.toList.map (·.type)) = cs.length by omega, List.take_length] at this
        exact this
      · cases e
    · rename_i m el ds hu
      split at e
      · rename_i kd he
        obtain ⟨hb, e⟩ : (Nat.beq (P.cellsOf el) 1 && (Nat.beq (P.cellsOf t) m && Nat.beq ds.length m)) = true ∧ (litInts kd ds).map (fun l => [SV.arr kd m l]) = some ss := by
          cases hq : (Nat.beq (P.cellsOf el) 1 && (Nat.beq (P.cellsOf t) m && Nat.beq ds.length m)) with
          | true => rw [hq] at e; exact ⟨rfl, e⟩
          | false => rw [hq] at e; cases e
        simp only [Bool.and_eq_true] at hb
        have hc := Nat.eq_of_beq_eq_true hb.1
        have hct := Nat.eq_of_beq_eq_true hb.2.1
        obtain ⟨l, q1, rfl⟩ := Option.map_eq_some_iff.1 e
        obtain ⟨xs, n', rfl, hx, hlen, hxs, hall⟩ := DataW.trod_array hu h
        cases hx
        obtain ⟨r1, r2⟩ := litInts_ok (cs := cs) he q1 (by omega) fun i hi => by
          have := hall i (by omega)
          rw [hc, Nat.mul_one] at this
          exact this
        subst r1
        have := RepC.arr (h := Wh W) (θ := Th0) kd m l [] [] (by simpa [hct] using hlen) r2 .nil
        simpa using this
      · obtain ⟨hb, e⟩ : Nat.beq (P.cellsOf t) (m * P.cellsOf el) = true ∧ svDs (svD P k) (List.replicate m el) ds = some ss := by
          cases hq : Nat.beq (P.cellsOf t) (m * P.cellsOf el) with
          | true => rw [hq] at e; exact ⟨rfl, e⟩
          | false => rw [hq] at e; cases e
        obtain ⟨xs, n', rfl, hx, hlen, hxs, hall⟩ := DataW.trod_array hu h
        cases hx
        obtain ⟨q1, q2⟩ := pieces_array (k := 0) hxs fun i hi => by simpa using hall i hi
        have := svDs_ok (fun t d ss hq cs p hx => svD_ok hq hx) q1 e
        have hb := Nat.eq_of_beq_eq_true hb
        rw [Nat.zero_mul, List.drop_zero, q2, show m * P.cellsOf el = cs.length by omega, List.take_length] at this
        exact this
    · cases e
/-- A package variable that a row lays, in memory. -/
theorem glob_laid {laid : List (String × DataW Unit)} : laidMet P laid W → ∀ {name : String} {d : DataW Unit} {g : Nat} {t : TypeId} {ss : List SV}, (name, d) ∈ laid → P.globalNamed name = some g → (P.globals[g]?).map (·.type) = some t → svD P 8 t d = some ss →
    ∃ vs ty fz, W.heap[g]? = some (.cells vs.toArray ty fz) ∧ RepC (Wh W) Th0 ss vs := fun ⟨ps, hL, _⟩ {name d g t ss} hm hg ht hs => by
  have key : ∀ {l : List (String × DataW Unit)} {ps : List MemPlace}, DataW.LaidVars P W l ps → (name, d) ∈ l → ∃ vs ty fz, W.heap[g]? = some (.cells vs.toArray ty fz) ∧ RepC (Wh W) Th0 ss vs := by
    intro l
    induction l with
    | nil => intro ps _ h; cases h
    | cons x r ih =>
      obtain ⟨n', d'⟩ := x
      rintro ps ⟨g', t', cs, fuel, p, q, h1, h2, h3, h4, h5, _⟩ h
      rcases List.mem_cons.1 h with h | h
      · cases h
        obtain rfl := Option.some.inj (hg.symm.trans h1)
        obtain rfl := Option.some.inj (ht.symm.trans h2)
        have hr := svD_ok hs h4
        unfold World.var? at h3
        rw [hg] at h3
        simp only [Option.bind_some] at h3
        split at h3
        · rename_i cs' ty fz hh
          cases h3
          exact ⟨cs.toList, ty, fz, by simpa using hh, hr⟩
        · cases h3
      · exact ih h5 h
  exact key hL hm
theorem glob_rep {ss : List SV} {vs : List Value} (r : RepC (Wh W) Th0 ss vs) : RepC (Wh W) Th0 ss vs := r
end
/-- a contract in an environment that knows fewer package variables -/
theorem SpecOk.globs {B C : Env} (hP : C.P = B.P) (hg : ∀ g cs, B.glob g = some cs → C.glob g = some cs) {f : FuncId} {S : Spec} (h : SpecOk B f S) : SpecOk C f S := by
  intro svs x hx hp w us hag hgl hr
  have := h svs x hx hp w us hag (fun g cs e => hgl g cs (hg g cs e)) hr
  rw [hP]; exact this
end Go.Proofs.YtchljgmcempedaaGreatDoor
