/- The arguments of a row, whatever their types (nothing is claimed here). -/
import Derived.Test.YtchljgmcempedaaGreatDoorSh27
import Derived.Test.YtchljgmcempedaaGreatDoorSh23
import Derived.ChangeArms
import Derived.Deep.Slices
import Derived.WideShapes
import Derived.ChangeMaps5
set_option linter.unusedVariables false
set_option linter.unusedSimpArgs false
namespace Go.Proofs.YtchljgmcempedaaGreatDoor
open Go Go.RowKit Go.ChangeShapes Go.WideShapes Go.Deep Go.ChangeMaps

inductive LT1 where
  | int (k : IntKind)
  | bool
  | str
  | arr (k : IntKind) (n : Nat)
  | rd (τ : ETy)
def fitL : LT1 → SV → Prop
  | .int k, s => ∃ n, s = .v (.int k n)
  | .bool, s => ∃ q, s = .v (.bool q)
  | .str, s => ∃ b, s = .v (.string b)
  | .arr k n, s => ∃ l, s = .arr k n l
  | .rd τ, s => ∃ l, s = .rd τ l
def FitL : List LT1 → List SV → Prop
  | [], [] => True
  | c :: cs, s :: ss => fitL c s ∧ FitL cs ss
  | _, _ => False
theorem FitL.cons {c : LT1} {cs : List LT1} {ss : List SV} (h : FitL (c :: cs) ss) : ∃ s r, ss = s :: r ∧ fitL c s ∧ FitL cs r := by
  cases ss with
  | nil => exact h.elim
  | cons s r => exact ⟨s, r, rfl, h.1, h.2⟩
theorem FitL.nil {ss : List SV} (h : FitL [] ss) : ss = [] := by
  cases ss with
  | nil => rfl
  | cons s r => exact h.elim
theorem FitL.append : ∀ {a b : List LT1} {ss tt : List SV}, FitL a ss → FitL b tt → FitL (a ++ b) (ss ++ tt)
  | [], b, ss, tt, h, g => by rw [h.nil]; exact g
  | c :: a, b, ss, tt, h, g => by
    obtain ⟨s, r, rfl, h1, h2⟩ := h.cons
    exact ⟨h1, h2.append g⟩
def ctCore : List LT1 := [.arr .u32 16, .int .u32, .arr .u32 12]
def ctMach : List LT1 := [.arr .u32 16, .int .u32, .arr .u32 12, .rd .u8, .int .u64, .rd .u8, .bool]
def ctVcpu : List LT1 := [.arr .u32 16, .int .u32, .arr .u32 12, .rd .u8, .bool, .int .i64, .rd .event]
def ctGuest : List LT1 := [.int .u32, .int .u32, .rd .u8, .arr .u32 16, .int .u32]
def ctE : ETy → List LT1
  | .u8 => [.int .u8]
  | .i64 => [.int .i64]
  | .u32 => [.int .u32]
  | .str => [.str]
  | .event => [.int .i64, .int .i64, .int .u64]
  | .trap => [.int .i64, .int .u32]
  | .instr => [.int .i64, .int .i64, .int .i64, .int .i64, .int .i32]
  | .vcpu => ctVcpu
  | .guest => ctGuest
  | .ints => [.rd .i64]
  | .bool => [.bool]
theorem fitE {τ : ETy} {ss : List SV} (h : FitL (ctE τ) ss) : ∃ x, ss = encE τ x := by
  cases τ
  case vcpu =>
    obtain ⟨_, _, rfl, ⟨a, rfl⟩, h1⟩ := FitL.cons h
    obtain ⟨_, _, rfl, ⟨b, rfl⟩, h2⟩ := FitL.cons h1
    obtain ⟨_, _, rfl, ⟨c, rfl⟩, h3⟩ := FitL.cons h2
    obtain ⟨_, _, rfl, ⟨d, rfl⟩, h4⟩ := FitL.cons h3
    obtain ⟨_, _, rfl, ⟨e, rfl⟩, h5⟩ := FitL.cons h4
    obtain ⟨_, _, rfl, ⟨f, rfl⟩, h6⟩ := FitL.cons h5
    obtain ⟨_, _, rfl, ⟨g, rfl⟩, h7⟩ := FitL.cons h6
    rw [h7.nil]; exact ⟨⟨⟨a, b, c⟩, d, e, f, g⟩, rfl⟩
  case guest =>
    obtain ⟨_, _, rfl, ⟨a, rfl⟩, h1⟩ := FitL.cons h
    obtain ⟨_, _, rfl, ⟨b, rfl⟩, h2⟩ := FitL.cons h1
    obtain ⟨_, _, rfl, ⟨c, rfl⟩, h3⟩ := FitL.cons h2
    obtain ⟨_, _, rfl, ⟨d, rfl⟩, h4⟩ := FitL.cons h3
    obtain ⟨_, _, rfl, ⟨e, rfl⟩, h5⟩ := FitL.cons h4
    rw [h5.nil]; exact ⟨⟨⟨a, b⟩, c, d, e⟩, rfl⟩
  case event =>
    obtain ⟨_, _, rfl, ⟨a, rfl⟩, h1⟩ := FitL.cons h
    obtain ⟨_, _, rfl, ⟨b, rfl⟩, h2⟩ := FitL.cons h1
    obtain ⟨_, _, rfl, ⟨c, rfl⟩, h3⟩ := FitL.cons h2
    rw [h3.nil]; exact ⟨⟨a, b, c⟩, rfl⟩
  case trap =>
    obtain ⟨_, _, rfl, ⟨a, rfl⟩, h1⟩ := FitL.cons h
    obtain ⟨_, _, rfl, ⟨b, rfl⟩, h2⟩ := FitL.cons h1
    rw [h2.nil]; exact ⟨⟨a, b⟩, rfl⟩
  case instr =>
    obtain ⟨_, _, rfl, ⟨a, rfl⟩, h1⟩ := FitL.cons h
    obtain ⟨_, _, rfl, ⟨b, rfl⟩, h2⟩ := FitL.cons h1
    obtain ⟨_, _, rfl, ⟨c, rfl⟩, h3⟩ := FitL.cons h2
    obtain ⟨_, _, rfl, ⟨d, rfl⟩, h4⟩ := FitL.cons h3
    obtain ⟨_, _, rfl, ⟨e, rfl⟩, h5⟩ := FitL.cons h4
    rw [h5.nil]; exact ⟨⟨a, b, c, d, e⟩, rfl⟩
  all_goals
    obtain ⟨_, _, rfl, ⟨a, rfl⟩, h1⟩ := FitL.cons h
    rw [h1.nil]; exact ⟨a, rfl⟩

/-! equality of tables -/
def etyN : ETy → Nat
  | .u8 => 0 | .i64 => 1 | .u32 => 2 | .str => 3 | .event => 4 | .trap => 5 | .instr => 6 | .vcpu => 7 | .guest => 8 | .ints => 9 | .bool => 10
theorem etyN_inj {a b : ETy} (h : etyN a = etyN b) : a = b := by cases a <;> cases b <;> first | rfl | (cases h; done)
def ctEq1 : LT1 → LT1 → Bool
  | .int k, .int k' => k == k'
  | .bool, .bool => true
  | .str, .str => true
  | .arr k n, .arr k' n' => k == k' && Nat.beq n n'
  | .rd τ, .rd σ => Nat.beq (etyN τ) (etyN σ)
  | _, _ => false
def ctEq : List LT1 → List LT1 → Bool
  | [], [] => true
  | a :: as, b :: bs => ctEq1 a b && ctEq as bs
  | _, _ => false
theorem ctEq1_eq {a b : LT1} (h : ctEq1 a b = true) : a = b := by
  cases a <;> cases b <;> simp only [ctEq1] at h <;> first | rfl | (cases h; done) | skip
  · rw [beq_iff_eq] at h; rw [h]
  · simp only [Bool.and_eq_true, beq_iff_eq] at h; rw [h.1, Nat.eq_of_beq_eq_true h.2]
  · rw [etyN_inj (Nat.eq_of_beq_eq_true h)]
theorem ctEq_eq : ∀ {a b : List LT1}, ctEq a b = true → a = b
  | [], [], h => rfl
  | [], b :: bs, h => by cases h
  | a :: as, [], h => by cases h
  | a :: as, b :: bs, h => by
    simp only [ctEq, Bool.and_eq_true] at h
    rw [ctEq1_eq h.1, ctEq_eq h.2]

/-! a type's table of cells -/
def layFs (f : TypeId → Option (List LT1)) (P : Program) : Nat → List Field → Option (Nat × List LT1)
  | o, [] => some (o, [])
  | o, fd :: fs => bif Nat.beq fd.offset o then (f fd.type).bind fun c => (layFs f P (o + P.cellsOf fd.type) fs).map fun r => (r.1, c ++ r.2) else none
def layP (P : Program) (ety : TypeId → Option ETy) : Nat → TypeId → Option (List LT1)
  | 0, _ => none
  | d + 1, t => match P.underlying t with
    | some (.int k) => some [.int k]
    | some .bool => some [.bool]
    | some .string => some [.str]
    | some (.array n e) => match P.underlying e with
      | some (.int k) => bif Nat.beq (P.cellsOf e) 1 && Nat.beq (P.cellsOf t) n then some [.arr k n] else none
      | _ => none
    | some (.struct fs) => (layFs (layP P ety d) P 0 fs.toList).bind fun r => bif Nat.beq r.1 (P.cellsOf t) then some r.2 else none
    | some (.slice e) => (ety e).bind fun τ => (layP P ety d e).bind fun c => bif ctEq c (ctE τ) && (Nat.beq (szE τ) (P.cellsOf e) && Nat.blt 0 (P.bytesOf e)) then some [.rd τ] else none
    | _ => none

section row
variable {H : Type} {enc : TypeId × Value → H} {P : Program} {ety : TypeId → Option ETy} {W : World} {sp : Nat → Bool} {hd : Bool}
abbrev Wh (W : World) : Hp := fun b => W.heap[b]?
theorem reach_lim {n : Nat} (h : n ≤ reachBytes) : n ≤ lim := Nat.le_trans h (by decide)
theorem wts_each : ∀ {ts : List TypeId} {ds : List (DataW H)} {i : Nat} {t : TypeId} {d : DataW H}, ts[i]? = some t → ds[i]? = some d → ∀ n, n ∈ d.weights P t → n ∈ DataW.weightsEach P ts ds
  | t0 :: ts, d0 :: ds, 0, t, d, h1, h2, n, hn => by
    cases h1; cases h2
    simp only [DataW.weightsEach, List.mem_append]; exact .inl hn
  | t0 :: ts, d0 :: ds, i + 1, t, d, h1, h2, n, hn => by
    simp only [DataW.weightsEach, List.mem_append]
    exact .inr (wts_each (by simpa using h1) (by simpa using h2) n hn)
  | [], _, i, t, d, h1, h2, n, hn => by simp at h1
  | _ :: _, [], i, t, d, h1, h2, n, hn => by simp at h2
theorem wts_all {e : TypeId} : ∀ {ds : List (DataW H)} {d : DataW H}, d ∈ ds → ∀ n, n ∈ d.weights P e → n ∈ DataW.weightsAll P e ds
  | d0 :: ds, d, h, n, hn => by
    simp only [DataW.weightsAll, List.mem_append]
    rcases List.mem_cons.1 h with rfl | h
    · exact .inl hn
    · exact .inr (wts_all h n hn)

theorem layFs_ok {f : TypeId → Option (List LT1)} {n : Nat} {cs : List Value} : ∀ {fs : List Field} {o : Nat} {r : Nat × List LT1}, layFs f P o fs = some r → ∀ {xs : List (DataW H × List MemPlace)},
    (∀ t c, f t = some c → ∀ cs x, DataW.trod enc P W 0 sp hd n t cs = some x → (∀ m, m ∈ x.1.weights P t → m ≤ reachBytes) → ∃ ss, RepC (Wh W) Th0 ss cs ∧ FitL c ss) →
    xs.length = fs.length → (∀ (i : Nat) (fd : Field), fs[i]? = some fd → DataW.trod enc P W 0 sp hd n fd.type ((cs.drop fd.offset).take (P.cellsOf fd.type)) = xs[i]?) →
    (∀ m, m ∈ DataW.weightsEach P (fs.map (·.type)) (xs.map (·.1)) → m ≤ reachBytes) →
    ∃ ss, RepC (Wh W) Th0 ss ((cs.drop o).take (r.1 - o)) ∧ FitL r.2 ss ∧ o ≤ r.1
  | [], o, r, e, xs, ih, hl, hx, hw => by
    cases e
    exact ⟨[], by simpa using RepC.nil, trivial, Nat.le_refl _⟩
  | fd :: fs, o, r, e, [], ih, hl, hx, hw => by cases hl
  | fd :: fs, o, r, e, x :: xs, ih, hl, hx, hw => by
    simp only [layFs] at e
    cases hb : Nat.beq fd.offset o with
    | false => rw [hb] at e; cases e
    | true =>
      rw [hb] at e; simp only [cond_true] at e
      obtain ⟨c, q1, q2⟩ := Option.bind_eq_some_iff.1 e
      obtain ⟨r', q3, rfl⟩ := Option.map_eq_some_iff.1 q2
      obtain rfl := Nat.eq_of_beq_eq_true hb
      obtain ⟨s1, a1, a2⟩ := ih _ _ q1 _ _ (hx 0 fd rfl) fun m hm => hw m (wts_each (i := 0) rfl rfl m hm)
      obtain ⟨s2, b1, b2, b3⟩ := layFs_ok q3 ih (by simpa using hl) (fun i g hg => by simpa using hx (i + 1) g (by simpa using hg)) fun m hm => hw m (by
        simp only [List.map_cons, DataW.weightsEach, List.mem_append]; exact .inr hm)
      refine ⟨s1 ++ s2, ?_, a2.append b2, by omega⟩
      have hk : r'.1 - fd.offset = P.cellsOf fd.type + (r'.1 - (fd.offset + P.cellsOf fd.type)) := by omega
      show RepC _ _ _ (List.take (r'.1 - fd.offset) _)
      rw [hk, List.take_add, List.drop_drop]
      exact a1.append b1
theorem lay_ok : ∀ {d : Nat} {t : TypeId} {c : List LT1}, layP P ety d t = some c → ∀ {n : Nat} {cs : List Value} {x : DataW H × List MemPlace}, DataW.trod enc P W 0 sp hd n t cs = some x → (∀ m, m ∈ x.1.weights P t → m ≤ reachBytes) →
    ∃ ss, RepC (Wh W) Th0 ss cs ∧ FitL c ss
  | 0, t, c, e, n, cs, x, h, hw => by cases e
  | d + 1, t, c, e, n, cs, x, h, hw => by
    simp only [layP] at e
    split at e
    · rename_i k hu
      cases e
      obtain ⟨m, rfl, _, hwf⟩ := DataW.trod_int hu h
      exact ⟨[.v (.int k m)], .cell _ _ _ _ rfl (.v _ (wf_okI hwf)) .nil, ⟨m, rfl⟩, trivial⟩
    · rename_i hu
      cases e
      obtain ⟨q, rfl, _⟩ := DataW.trod_bool hu h
      exact ⟨[.v (.bool q)], .cell _ _ _ _ rfl (.v _ trivial) .nil, ⟨q, rfl⟩, trivial⟩
    · rename_i hu
      cases e
      obtain ⟨s, rfl, hx, _⟩ := DataW.trod_string hu h
      have : s.size ≤ lim := reach_lim (hw _ (by rw [hx]; simp only [DataW.weights, List.mem_singleton]; exact (ByteArray.size_data).symm))
      exact ⟨[.v (.string s)], .cell _ _ _ _ rfl (.v _ this) .nil, ⟨s, rfl⟩, trivial⟩
    · rename_i len el hu
      split at e
      · rename_i k he
        obtain ⟨hb, rfl⟩ := bif_some e
        simp only [Bool.and_eq_true] at hb
        have hc := Nat.eq_of_beq_eq_true hb.1
        have hct := Nat.eq_of_beq_eq_true hb.2
        obtain ⟨xs, m', rfl, hx, hlen, hxs, hall⟩ := DataW.trod_array hu h
        rw [hct] at hlen
        have key : ∀ i, i < len → ∃ m, cs[i]? = some (.int k m) ∧ okI k m := fun i hi => by
          have := hall i hi
          rw [List.getElem?_eq_getElem (by omega)] at this
          obtain ⟨m, h1, _, hwf⟩ := DataW.trod_int he this
          refine ⟨m, ?_, wf_okI hwf⟩
          have h2 := congrArg (·[0]?) h1
          simpa [hc, List.getElem?_take, List.getElem?_drop] using h2
        have hcs : ∃ L : List Int, cs = L.map (Value.int k) ∧ L.length = len ∧ ∀ x, x ∈ L → okI k x := by
          refine ⟨cs.map fun v => match v with | .int _ m => m | _ => 0, ?_, by simpa using hlen, fun x hx => ?_⟩
          · apply List.ext_getElem?
            intro i
            rcases Nat.lt_or_ge i len with hi | hi
            · obtain ⟨m, h1, _⟩ := key i hi
              simp only [List.getElem?_map, h1]; rfl
            · rw [List.getElem?_eq_none (by omega), List.getElem?_eq_none (by simp; omega)]
          · obtain ⟨v, hv, rfl⟩ := List.mem_map.1 hx
            obtain ⟨i, hi⟩ := List.getElem?_of_mem hv
            have hlt : i < len := by
              have := (List.getElem?_eq_some_iff.1 hi).1
              omega
            obtain ⟨m, h1, h2⟩ := key i hlt
            rw [hi] at h1; cases h1
            exact h2
        obtain ⟨L, rfl, h5, h6⟩ := hcs
        refine ⟨[.arr k len L], ?_, ⟨_, rfl⟩, trivial⟩
        have := RepC.arr (h := Wh W) (θ := Th0) k len L [] [] h5 h6 .nil
        simpa using this
      · cases e
    · rename_i fs hu
      obtain ⟨r, q1, q2⟩ := Option.bind_eq_some_iff.1 e
      obtain ⟨hb, rfl⟩ := bif_some q2
      have hb := Nat.eq_of_beq_eq_true hb
      obtain ⟨xs, n', rfl, rfl, hlen, hxs, hall⟩ := DataW.trod_struct hu h
      obtain ⟨ss, a1, a2, _⟩ := layFs_ok q1 (fun t c hc cs x hx hw => lay_ok hc hx hw) (by simpa using hxs) (fun i fd hf => hall i fd (by simpa using hf)) (fun m hm => hw m (by
        simp only [DataW.weights, hu]; exact hm))
      refine ⟨ss, ?_, a2⟩
      simpa [hb, ← hlen] using a1
    · rename_i el hu
      obtain ⟨τ, q1, q2⟩ := Option.bind_eq_some_iff.1 e
      obtain ⟨c', q3, q4⟩ := Option.bind_eq_some_iff.1 q2
      obtain ⟨hb, rfl⟩ := bif_some q4
      simp only [Bool.and_eq_true] at hb
      obtain rfl := ctEq_eq hb.1
      have hsz := Nat.eq_of_beq_eq_true hb.2.1
      have hpos := blt_lt hb.2.2
      rcases open_slice hu h with ⟨rfl, _⟩ | ⟨a, len, cap, m, n', D, Pl, rfl, _, hlc, _, hm, rfl, hel⟩
      · exact ⟨[.rd τ []], .cell _ _ _ _ rfl (.rdnil τ none 0) .nil, ⟨[], rfl⟩, trivial⟩
      · by_cases h0 : len = 0
        · subst h0
          exact ⟨[.rd τ []], .cell _ _ _ _ rfl (.rdnil τ (some a) cap) .nil, ⟨[], rfl⟩, trivial⟩
        have hlm : len ≤ m := by rw [hm]; split <;> omega
        have hlim : len ≤ lim := by
          have := reach_lim (hw ((((List.range len).map D).length + ((List.range (m - len)).map fun j => D (len + j)).length) * P.bytesOf el) (by
            simp only [DataW.weights, hu]; exact List.mem_cons_self))
          have h2 : (((List.range len).map D).length + ((List.range (m - len)).map fun j => D (len + j)).length) * 1 ≤ (((List.range len).map D).length + ((List.range (m - len)).map fun j => D (len + j)).length) * P.bytesOf el := Nat.mul_le_mul_left _ hpos
          simp only [List.length_map, List.length_range] at this h2
          omega
        have each : ∀ i, i < len → ∃ y : τ.T × List Value, W.cells? 0 (a.add (i * P.cellsOf el)) (P.cellsOf el) = some y.2 ∧ RepC (Wh W) Th0 (encE τ y.1) y.2 := fun i hi => by
          obtain ⟨cs', h1, h2⟩ := hel i (by omega)
          obtain ⟨ss, b1, b2⟩ := lay_ok q3 h2 fun k hk => hw k (by
            simp only [DataW.weights, hu]
            refine List.mem_cons_of_mem _ (List.mem_append.2 (.inl (wts_all (d := D i) (List.mem_map.2 ⟨i, List.mem_range.2 hi, rfl⟩) k hk))))
          obtain ⟨y, rfl⟩ := fitE b2
          exact ⟨(y, cs'), h1, b1⟩
        let Y : Nat → τ.T × List Value := fun i => if hi : i < len then Classical.choose (each i hi) else (dfE τ, [])
        have hY : ∀ i, i < len → W.cells? 0 (a.add (i * P.cellsOf el)) (P.cellsOf el) = some (Y i).2 ∧ RepC (Wh W) Th0 (encE τ (Y i).1) (Y i).2 := fun i hi => by
          have : Y i = Classical.choose (each i hi) := dif_pos hi
          rw [this]; exact Classical.choose_spec (each i hi)
        have cellAt : ∀ i j v, i < len → (Y i).2[j]? = some v → W.cell? ((a.add (i * P.cellsOf el)).add j) = some v ∧ j < P.cellsOf el := fun i j v hi hv => by
          have h1 := (hY i hi).1
          simp only [World.cells?, Nat.zero_le, if_true] at h1
          have h2 := mapM_some_length h1
          have hj : j < P.cellsOf el := by
            have := (List.getElem?_eq_some_iff.1 hv).1
            simp at h2; omega
          have h3 := mapM_some_get h1 j j (by simp [hj])
          exact ⟨h3.trans hv, hj⟩
        have hspot : a.spot = none := by
          have h1 := (hY 0 (by omega)).1
          have hpos' : 0 < P.cellsOf el := by rw [← hsz]; exact szE_pos τ
          simp only [World.cells?, Nat.zero_le, if_true] at h1
          have h3 := mapM_some_get h1 0 0 (by simp [hpos'])
          have h4 : (Y 0).2[0]? ≠ none := by
            have h2 := mapM_some_length h1
            rw [List.length_range] at h2
            rw [List.getElem?_eq_getElem (show 0 < (Y 0).2.length by omega)]
            simp
          cases hs : a.spot with
          | none => rfl
          | some s =>
            exfalso
            apply h4
            rw [← h3]
            have e1 : (a.add (0 * P.cellsOf el)).add 0 = a := by simp [Addr.add]
            rw [e1]
            unfold World.cell?
            split
            · simp [hs]
            · rfl
        refine ⟨[.rd τ ((List.range len).map fun i => (Y i).1)], .cell _ _ _ _ rfl ?_ .nil, ⟨_, rfl⟩, trivial⟩
        have hlen : ((List.range len).map fun i => (Y i).1).length = len := by simp
        have := Rep.rd (h := Wh W) (θ := Th0) τ ((List.range len).map fun i => (Y i).1) a cap (fun i => (Y i).2) hspot (by rw [hlen]; exact hlc) (fun j x hj => by
          have hlt : j < len := by
            have := (List.getElem?_eq_some_iff.1 hj).1
            omega
          rw [List.getElem?_map, List.getElem?_range hlt] at hj
          cases hj
          exact (hY j hlt).2) (fun j i v hj hv => by
          rw [hlen] at hj
          obtain ⟨h1, hi⟩ := cellAt j i v hj hv
          unfold World.cell? at h1
          have e1 : ((a.add (j * P.cellsOf el)).add i).block = a.block := by unfold Addr.add; split <;> split <;> rfl
          have e2 : ((a.add (j * P.cellsOf el)).add i).off = a.off + (j * szE τ + i) := by
            rw [hsz]; unfold Addr.add; split <;> split <;> simp_all <;> omega
          rw [e1, e2] at h1
          show (match (Wh W) a.block with | some (.cells c _ _) => c[a.off + (j * szE τ + i)]? | _ => none) = some v
          split at h1
          · rename_i cc ty fz hh
            rw [show (Wh W) a.block = _ from hh]
            split at h1
            · cases h1
            · exact h1
          · cases h1) (by rw [hlen]; exact hlim)
        rw [hlen] at this
        exact this
    · cases e

/-! arguments by their types -/
def ctA : AT → Option (List LT1)
  | .core => some ctCore
  | .mach => some ctMach
  | .trap => some (ctE .trap)
  | .instr => some (ctE .instr)
  | .part => some [.int .u32, .int .u32]
  | .guest => some ctGuest
  | .conf => some [.int .u32, .rd .guest]
  | .event => some (ctE .event)
  | .vcpu => some ctVcpu
  | .a k n => some [.arr k n]
  | _ => none
theorem fitA {t : AT} {c : List LT1} {ss : List SV} (hc : ctA t = some c) (h : FitL c ss) : ∃ x, encA t x = .agg ss := by
  cases t <;> simp only [ctA] at hc <;> first | (cases hc; done) | skip
  case core =>
    cases hc
    obtain ⟨_, _, rfl, ⟨a, rfl⟩, h1⟩ := FitL.cons h
    obtain ⟨_, _, rfl, ⟨b, rfl⟩, h2⟩ := FitL.cons h1
    obtain ⟨_, _, rfl, ⟨c, rfl⟩, h3⟩ := FitL.cons h2
    rw [h3.nil]; exact ⟨⟨a, b, c⟩, rfl⟩
  case mach =>
    cases hc
    obtain ⟨_, _, rfl, ⟨a, rfl⟩, h1⟩ := FitL.cons h
    obtain ⟨_, _, rfl, ⟨b, rfl⟩, h2⟩ := FitL.cons h1
    obtain ⟨_, _, rfl, ⟨c, rfl⟩, h3⟩ := FitL.cons h2
    obtain ⟨_, _, rfl, ⟨d, rfl⟩, h4⟩ := FitL.cons h3
    obtain ⟨_, _, rfl, ⟨e, rfl⟩, h5⟩ := FitL.cons h4
    obtain ⟨_, _, rfl, ⟨f, rfl⟩, h6⟩ := FitL.cons h5
    obtain ⟨_, _, rfl, ⟨g, rfl⟩, h7⟩ := FitL.cons h6
    rw [h7.nil]; exact ⟨⟨⟨a, b, c⟩, d, e, f, g⟩, rfl⟩
  case trap => cases hc; obtain ⟨x, rfl⟩ := fitE (τ := .trap) h; exact ⟨x, rfl⟩
  case instr => cases hc; obtain ⟨x, rfl⟩ := fitE (τ := .instr) h; exact ⟨x, rfl⟩
  case event => cases hc; obtain ⟨x, rfl⟩ := fitE (τ := .event) h; exact ⟨x, rfl⟩
  case vcpu => cases hc; obtain ⟨x, rfl⟩ := fitE (τ := .vcpu) h; exact ⟨x, rfl⟩
  case guest => cases hc; obtain ⟨x, rfl⟩ := fitE (τ := .guest) h; exact ⟨x, rfl⟩
  case part =>
    cases hc
    obtain ⟨_, _, rfl, ⟨a, rfl⟩, h1⟩ := FitL.cons h
    obtain ⟨_, _, rfl, ⟨b, rfl⟩, h2⟩ := FitL.cons h1
    rw [h2.nil]; exact ⟨⟨a, b⟩, rfl⟩
  case conf =>
    cases hc
    obtain ⟨_, _, rfl, ⟨a, rfl⟩, h1⟩ := FitL.cons h
    obtain ⟨_, _, rfl, ⟨b, rfl⟩, h2⟩ := FitL.cons h1
    rw [h2.nil]; exact ⟨⟨a, b⟩, rfl⟩
  case a =>
    cases hc
    obtain ⟨_, _, rfl, ⟨a, rfl⟩, h1⟩ := FitL.cons h
    rw [h1.nil]; exact ⟨a, rfl⟩
def isAggT (P : Program) (t : TypeId) : Bool := match P.underlying t with
  | some (.struct _) | some (.array _ _) => true
  | _ => false
def isSlice (P : Program) (t : TypeId) : Bool := match P.underlying t with
  | some (.slice _) => true
  | _ => false
/-- does the type of an argument fit? -/
def argOk (P : Program) (ety : TypeId → Option ETy) (t : AT) (ty : TypeId) : Bool := match t with
  | .i k => match P.underlying ty with
    | some (.int k') => k == k'
    | _ => false
  | .b => match P.underlying ty with
    | some .bool => true
    | _ => false
  | .str => match P.underlying ty with
    | some .string => true
    | _ => false
  | .rd τ => isSlice P ty && (match layP P ety 8 ty with
    | some c => ctEq c [.rd τ]
    | none => false)
  | t => isAggT P ty && (match ctA t, layP P ety 8 ty with
    | some c, some c' => ctEq c' c
    | _, _ => false)
theorem arg_any {t : AT} {ty : TypeId} {b0 : Nat} {v : Value} {d : DataW H} {ps : List MemPlace} (hok : argOk P ety t ty = true) (hval : Value.okWide P W .any b0 ty v) (h : DataW.Trod enc P W 0 sp hd ty v d ps) (hw : ∀ m, m ∈ d.weights P ty → m ≤ reachBytes) :
    ∃ x : t.T, Rep (Wh W) Th0 (encA t x) v := by
  have agg : ∀ c, ctA t = some c → isAggT P ty = true → layP P ety 8 ty = some c → ∃ x : t.T, Rep (Wh W) Th0 (encA t x) v := fun c hc ha hl => by
    have hv : ∃ cs, v = .agg cs := by
      unfold isAggT at ha; unfold Value.okWide at hval
      split at ha
      · rename_i fs hu; rw [hu] at hval; obtain ⟨cs, rfl, _⟩ := hval; exact ⟨cs, rfl⟩
      · rename_i n e hu; rw [hu] at hval; obtain ⟨cs, rfl, _⟩ := hval; exact ⟨cs, rfl⟩
      · cases ha
    obtain ⟨cs, rfl⟩ := hv
    obtain ⟨fuel, hf⟩ := h
    obtain ⟨ss, r, f⟩ := lay_ok hl hf hw
    obtain ⟨x, hx⟩ := fitA hc f
    refine ⟨x, ?_⟩
    rw [hx]
    have := Rep.agg (h := Wh W) (θ := Th0) ss cs.toList r
    simpa using this
  have rest : ∀ c, ctA t = some c → (isAggT P ty && (match ctA t, layP P ety 8 ty with | some c, some c' => ctEq c' c | _, _ => false)) = true → ∃ x : t.T, Rep (Wh W) Th0 (encA t x) v := fun c hc hq => by
    simp only [Bool.and_eq_true, hc] at hq
    cases hl : layP P ety 8 ty with
    | none => rw [hl] at hq; simp at hq
    | some c' =>
      rw [hl] at hq
      have := ctEq_eq hq.2
      subst this
      exact agg c' hc hq.1 hl
  cases t
  case i k =>
    simp only [argOk] at hok
    split at hok
    · rename_i k' hu
      have : k = k' := by simpa using hok
      subst this
      obtain ⟨n, rfl, hn⟩ := arg_int (k := k) hu hval h
      exact ⟨n, rep_int hn⟩
    · cases hok
  case b =>
    simp only [argOk] at hok
    split at hok
    · rename_i hu
      obtain ⟨q, rfl, _⟩ := open_bool hu hval h
      exact ⟨q, .v _ trivial⟩
    · cases hok
  case str =>
    simp only [argOk] at hok
    split at hok
    · rename_i hu
      obtain ⟨s, rfl, rfl, _⟩ := open_string hu hval h
      exact ⟨s, .v _ (reach_lim (hw _ (by simp only [DataW.weights, List.mem_singleton]; exact (ByteArray.size_data).symm)))⟩
    · cases hok
  case rd τ =>
    simp only [argOk, Bool.and_eq_true] at hok
    have hu : ∃ e, P.underlying ty = some (.slice e) := by
      have := hok.1; unfold isSlice at this
      split at this
      · exact ⟨_, ‹_›⟩
      · cases this
    obtain ⟨e, hu⟩ := hu
    obtain ⟨a, len, cap, rfl⟩ := okWide_slice hu hval
    cases hl : layP P ety 8 ty with
    | none => rw [hl] at hok; simp at hok
    | some c =>
      rw [hl] at hok
      have := ctEq_eq hok.2
      subst this
      obtain ⟨fuel, hf⟩ := h
      obtain ⟨ss, r, f⟩ := lay_ok hl hf hw
      obtain ⟨_, _, rfl, ⟨l, rfl⟩, f1⟩ := FitL.cons f
      cases f1.nil
      rcases r.inv with ⟨v', vs', hv, _, r1, _⟩ | ⟨k, n, l', vs', he, _⟩
      · have : v' = .slice a len cap := by simpa [Value.cells] using (congrArg List.head? hv).symm
        subst this
        exact ⟨l, r1⟩
      · cases he
  case mon =>
    exfalso
    simp only [argOk, ctA, Bool.and_eq_true] at hok
    exact Bool.noConfusion hok.2
  case pstep =>
    exfalso
    simp only [argOk, ctA, Bool.and_eq_true] at hok
    exact Bool.noConfusion hok.2
  all_goals exact rest _ rfl hok
def argsOk (P : Program) (ety : TypeId → Option ETy) : List AT → List TypeId → Bool
  | [], [] => true
  | t :: ts, ty :: tys => argOk P ety t ty && argsOk P ety ts tys
  | _, _ => false
theorem args_any : ∀ {ats : List AT} {tys : List TypeId} {vs : List Value} {ds : List (DataW H)} {p : List MemPlace} {b0 : Nat}, argsOk P ety ats tys = true →
    (∀ (j : Nat) t v, tys[j]? = some t → vs[j]? = some v → Value.okWide P W .any b0 t v) → DataW.TrodAll enc P W 0 sp hd tys vs ds p → (∀ m, m ∈ DataW.weightsEach P tys ds → m ≤ reachBytes) →
    ∃ a : ArgT ats, RepL (Wh W) Th0 (encArgs ats a) vs
  | [], [], vs, ds, p, b0, hok, hval, h, hw => by
    obtain ⟨rfl, _⟩ := trodAll_nil h
    exact ⟨(), .nil⟩
  | [], _ :: _, vs, ds, p, b0, hok, hval, h, hw => by cases hok
  | _ :: _, [], vs, ds, p, b0, hok, hval, h, hw => by cases hok
  | t :: ts, ty :: tys, vs, ds, p, b0, hok, hval, h, hw => by
    simp only [argsOk, Bool.and_eq_true] at hok
    obtain ⟨v, vs', d, ds', q, r, rfl, rfl, rfl, h1, h2⟩ := trodAll_cons h
    obtain ⟨x, rx⟩ := arg_any hok.1 (hval 0 _ _ rfl rfl) h1 fun m hm => hw m (by simp only [DataW.weightsEach, List.mem_append]; exact .inl hm)
    obtain ⟨a, ra⟩ := args_any hok.2 (fun j t v ht hv => hval (j + 1) t v (by simpa using ht) (by simpa using hv)) h2 fun m hm => hw m (by simp only [DataW.weightsEach, List.mem_append]; exact .inr hm)
    exact ⟨(x, a), .cons _ _ _ _ rx ra⟩

/-- A law that answers true, by its contract. -/
theorem law_sig {E : Env} {f : FuncId} {as : List AT} (c : SpecOk E f (sig as [.b] fun _ => true)) {W : World} {args : Array Value} {a : ArgT as} (hg : GlobOk E (Wh W)) (hr : RepL (Wh W) Th0 (encArgs as a) args.toList) :
    Calls E.P f args W fun e W' => e = .returned (.bool true) ∧ Below W.heap.size W W' := by
  have self : ∀ {ts : List AT} {x : ArgT ts}, decArgs ts (encArgs ts x) = some x := by
    intro ts
    induction ts with
    | nil => intro x; rfl
    | cons t ts ih =>
      intro x
      have one : decA t (encA t x.1) = some x.1 := by
        have cast : ∀ (τ : ETy) (l : List τ.T), castL τ τ l = some l := fun τ l => by cases τ <;> rfl
        cases t <;> first | rfl | simp [encA, decA] | skip
        exact cast _ _
      simp only [encArgs, decArgs, one, ih, Option.bind_some, Option.map_some]
  have hrun : (sig as [.b] fun _ => true).run (encArgs as a) = some (true, true) := by
    show (decArgs as (encArgs as a)).map _ = _
    rw [self]; rfl
  refine (c _ _ hrun (Wh W) W args.toList (fun b o e => e) hg hr).mono fun e W' ⟨v, h', q1, q2, _, _, _, q3, _⟩ => ?_
  have q3 : Rep h' Th0 (.v (.bool true)) v := q3
  cases q3
  exact ⟨q1, q2⟩
end row
end Go.Proofs.YtchljgmcempedaaGreatDoor
