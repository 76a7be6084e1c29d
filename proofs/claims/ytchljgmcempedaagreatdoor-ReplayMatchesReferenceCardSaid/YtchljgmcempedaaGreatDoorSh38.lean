/- Contracts by types for functions that may panic or that recover (nothing is claimed here). -/
import Derived.Test.YtchljgmcempedaaGreatDoorSh37
set_option linter.unusedVariables false
set_option linter.unusedSimpArgs false
namespace Go.Proofs.YtchljgmcempedaaGreatDoor
open Go Go.RowKit

section code
variable {E : Env} {h : Hp} {w : World}
/-- what a call of such a function comes to -/
def EndP (w : World) (h : Hp) (q p : SV → Prop) (en : Ending) (w' : World) : Prop :=
  ∃ h' v r, ((en = .returned v ∧ q r) ∨ (en = .panicked [{ v, recovered := false }] ∧ p r)) ∧ Rep h' Th0 r v ∧ Below w.heap.size w w' ∧ h.le h' ∧ (∀ b o, h' b = some o → w'.heap[b]? = some o) ∧ (∀ b, b < w.heap.size → h' b = h b)
theorem finR_end {q p : SV → Prop} {G2 : Goal} (hq : G2.q = q) {fn : Func} {s' : St} {a' : Act} {h' : Hp} {θ' : Th} {w' : World} (R : SRel E w.heap.size w h h' θ' s' a' w') (eK : (finR E fn s').holds G2) :
    ∃ v, (results fn a'.tmps).run E.P w' = .ok v w' ∧ EndP w h q p (.returned v) w' := by
  unfold finR at eK
  split at eK
  · rename_i vs hr
    obtain ⟨u, h1, h2⟩ := result_ok R.inv R.tmps hr
    split at eK
    · rename_i r' hl
      obtain ⟨h3, hle3, I2⟩ := R.inv.freezeM (keysS (oneS vs))
      have hq' : q r' := by
        have : G2.q r' := eK
        rw [hq] at this
        exact this
      exact ⟨u, h1, h3, u, r', .inl ⟨rfl, hq'⟩, liftS_rep hl (h2.mono hle3 (.refl _)) I2.lies, I2.below, I2.hle, I2.agree, I2.hold⟩
    · exact eK.elim
  · exact eK.elim
theorem repL_slots {θ : Th} {T : Tmps} {tm : Array Value} (hT : RepT h θ T tm) : ∀ ds : List Nat, RepL h θ (ds.map T) (ds.map fun t => tm.getD t undef)
  | [] => .nil
  | t :: ds => .cons _ _ _ _ (hT t) (repL_slots hT ds)
theorem finD_end (ok : EnvOk E) {n : Nat} {C : Cfg} {q p : SV → Prop} {G2 : Goal} (hq : G2.q = q) (hp : ∀ v, G2.n 4242 [v] [] → p v) {fn : Func} {s' : St} {D : Option FuncId} {a' : Act} {h' : Hp} {θ' : Th} {w' : World} (R : SRel E w.heap.size w h h' θ' s' a' w') (d : DOk C.ds a' D) {pv : Option SV} {m : FrameMode}
    (hm : (pv = none ∧ m = .returning) ∨ (∃ v u, pv = some v ∧ Rep h' θ' v u ∧ m = .panicking [{ v := u, recovered := false }])) (eK : (finD E n C fn pv s' D).holds G2) : LeavesIn Fence.wide 0 E.P fn a'.tmps (EndP w h q p) a'.defers m w' := by
  cases D with
  | none =>
    have hd : a'.defers = [] := d
    rw [hd]
    rcases hm with ⟨rfl, rfl⟩ | ⟨v, u, rfl, rv, rfl⟩
    · exact finR_end hq R eK
    · have eK : (panT v).holds G2 := eK
      unfold panT at eK
      obtain ⟨hk, eK⟩ := holds_need (Closed.holds G2) eK
      exact ⟨h', u, v, .inr ⟨rfl, hp v eK⟩, rv.kf hk, R.inv.below, R.inv.hle, R.inv.agree, R.inv.hold⟩
  | some f =>
    have hd : a'.defers = [dfrOf C.ds f a'] := d
    rw [hd]
    simp only [finD] at eK
    obtain ⟨hc, eK⟩ := holds_need (Closed.holds G2) eK
    split at eK
    · rename_i fd hf
      have hrec : ∃ u m', recV m = some (u, m') ∧ Rep h' θ' (pvS pv) u ∧ settle m' = .returning ∧ m ≠ .run := by
        rcases hm with ⟨rfl, rfl⟩ | ⟨v, u, rfl, rv, rfl⟩
        · exact ⟨_, _, rfl, .v _ trivial, rfl, by simp⟩
        · exact ⟨_, _, rfl, rv, rfl, by simp⟩
      obtain ⟨u, m', hr, rv, hset, hrun⟩ := hrec
      have key := dfr_ok ok hf eK R.inv (repL_slots R.tmps C.ds) rv hr
      refine leavesIn_cons hrun (fun q => by simp [Fence.wide] at q) (f := f) (args := (C.ds.map fun t => a'.tmps.getD t undef).toArray) ?_ (fun _ _ => trivial) (key.mono fun en m2 w2 hx => ?_)
      · have := ok.callee f hc (#[] ++ (C.ds.map fun t => a'.tmps.getD t undef).toArray) w'
        simpa [invoke] using this
      · obtain ⟨v, M', κ', h2, θ2, rfl, rfl, hh, ht, hκ, I2, e2⟩ := hx
        show LeavesIn Fence.wide 0 E.P fn a'.tmps (EndP w h q p) [] (settle m2) w2
        rw [hset]
        exact finR_end hq (s' := ⟨s'.T, M', κ', s'.n⟩) ⟨I2, R.tmps.mono hh ht, R.size⟩ e2
    · exact eK.elim
/-- A function's call comes to what the tree says. -/
theorem evFP_ok (ok : EnvOk E) {PS : FuncId → Option PSpec} (po : PSOk E PS) (C : Cfg) {n : Nat} {f : FuncId} {args : List SV} {q p : SV → Prop} (e : (evFP E PS C n f args).holds ⟨q, fun l vs bs => l = 4242 ∧ ∃ v, vs = [v] ∧ p v⟩) {us : List Value} (hag : ∀ b o, h b = some o → w.heap[b]? = some o) (hg : GlobOk E h) (ru : RepL h Th0 args us) :
    Calls E.P f us.toArray w (EndP w h q p) := by
  unfold evFP at e
  split at e
  · rename_i fn hf
    have I : Inv E w.heap.size w h h Th0 (fun _ => none) (fun k => 0 ≤ k) w :=
      ⟨hag, (fun k b e => by cases e), (fun k k' b b' id v v' e => by cases e), fun _ _ => rfl, .refl _ _, rfl, .refl _, fun _ _ => rfl, hg⟩
    split at e
    · rename_i body hbody
      obtain ⟨hle, e⟩ := holds_need (Closed.holds _) e
      have hle : args.length ≤ fn.ntmps := Nat.le_of_ble_eq_true hle
      have hlen : us.length = args.length := repL_length ru
      refine (callsIn_wide (n := 0)).1 (callsIn_of_wp_defers (F := Fence.wide) hf hbody trivial (wpIn_wide.2 ?_))
      have hpan : ∀ {G2 : Goal}, agree [4242] ⟨q, fun l vs bs => l = 4242 ∧ ∃ v, vs = [v] ∧ p v⟩ G2 → ∀ v, G2.n 4242 [v] [] → p v := fun hG v hv => by
        rw [hG.2 4242 (List.mem_cons_self ..)] at hv
        obtain ⟨_, v', h1, h2⟩ := hv
        cases h1
        exact h2
      refine codeP_ok ok po C n [4242] 0 _ body ⟨initT args, fun _ => none, 0, fn.ntmps⟩ none _ _ { tmps := us.toArray ++ Array.replicate (fn.ntmps - us.toArray.size) undef, defers := [] } w h Th0 _ ⟨I, initT_rep _ ru, by simp; omega⟩ rfl e (fun ex s' D' a' w' h' θ' G2 hG R d hs eK => ?_) (fun v u s' D' a' w' h' θ' G2 hG R rv d hs eK => ?_)
      · have fin : (finD E n C fn none s' D').holds G2 → LeavesIn Fence.wide 0 E.P fn a'.tmps (EndP w h q p) a'.defers .returning w' := fun eK => finD_end ok hG.1 (hpan hG) R d (.inl ⟨rfl, rfl⟩) eK
        cases ex with
        | normal => exact fin eK
        | ret => exact fin eK
        | exit i => exact eK.elim
      · exact finD_end ok hG.1 (hpan hG) R d (.inr ⟨v, u, rfl, rv, rfl⟩) eK
    · exact e.elim
  · exact e.elim
def psig (as rs : List AT) (pan : SV) (F : ArgT as → Bool × TupT rs) (pre : ArgT as → Bool := fun _ => true) : PSpec := ⟨TupT rs, fun svs => (decArgs as svs).map fun a => (pre a, F a), encO rs, okO rs, pan⟩
theorem spec_sigP (ok : EnvOk E) {PS : FuncId → Option PSpec} (po : PSOk E PS) {n : Nat} {f : FuncId} {as rs : List AT} {pan : SV} {F : ArgT as → Bool × TupT rs} {pre : ArgT as → Bool} (C : ArgT as → Cfg)
    (e : ∀ a, pre a = true → okSL (encArgs as a) → (evFP E PS (C a) n f (encArgs as a)).holds ⟨fun r => (F a).1 = true ∧ decO rs r = some (F a).2, fun l vs bs => l = 4242 ∧ ∃ v, vs = [v] ∧ ((F a).1 = false ∧ v = pan)⟩) : PSpecOk E f (psig as rs pan F pre) :=
  fun svs x hx h w us hag hg ru => by
    obtain ⟨a, h1, h2⟩ := Option.map_eq_some_iff.1 (show (decArgs as svs).map (fun a => (pre a, F a)) = some (true, x) from hx)
    obtain ⟨hpr, h3⟩ := Prod.mk.inj h2
    clear h2
    subst h3
    have ru' := decArgs_rep h1 ru
    refine (evFP_ok ok po (C a) (e a hpr (repL_ok ru')) hag hg ru').mono fun en w' ⟨h', v, r, hv, rv, b1, b2, b3, b4⟩ => ?_
    refine ⟨h', v, ?_, b1, b2, b3, b4⟩
    rcases hv with ⟨he, hF, hd⟩ | ⟨he, hF, rfl⟩
    · have q9 : Rep h' Th0 (encO rs (F a).2) v := decO_rep hd rv
      exact .inl ⟨hF, he, q9, rep_ok q9⟩
    · exact .inr ⟨hF, he, rv⟩
theorem spec_sigD (ok : EnvOk E) {PS : FuncId → Option PSpec} (po : PSOk E PS) {n : Nat} {f : FuncId} {as rs : List AT} {F : ArgT as → TupT rs} {pre : ArgT as → Bool} (C : ArgT as → Cfg)
    (e : ∀ a, pre a = true → okSL (encArgs as a) → (evFP E PS (C a) n f (encArgs as a)).ends fun r => decO rs r = some (F a)) : SpecOk E f (sig as rs F pre) :=
  fun svs x hx h w us hag hg ru => by
    obtain ⟨a, h1, h2, rfl⟩ := map_pre hx
    have ru' := decArgs_rep h1 ru
    have e2 : (evFP E PS (C a) n f (encArgs as a)).holds ⟨fun r => decO rs r = some (F a), fun l vs bs => l = 4242 ∧ ∃ v, vs = [v] ∧ False⟩ := by
      have h3 := e a h2 (repL_ok ru')
      have : (Goal.of fun r => decO rs r = some (F a)) = ⟨fun r => decO rs r = some (F a), fun l vs bs => l = 4242 ∧ ∃ v, vs = [v] ∧ False⟩ := by
        simp [Goal.of]
      rw [← this]; exact h3
    refine (evFP_ok ok po (C a) e2 hag hg ru').mono fun en w' ⟨h', v, r, hv, rv, b1, b2, b3, b4⟩ => ?_
    rcases hv with ⟨he, hd⟩ | ⟨he, hF⟩
    · have q9 : Rep h' Th0 (encO rs (F a)) v := decO_rep hd rv
      exact ⟨v, h', he, b1, b2, b3, b4, q9, rep_ok q9⟩
    · exact hF.elim
/-! tables of such contracts -/
def lookP : List (FuncId × PSpec) → FuncId → Option PSpec
  | [], _ => none
  | p :: r, f => bif Nat.beq p.1 f then some p.2 else lookP r f
def AllP (B : Env) : List (FuncId × PSpec) → Prop
  | [] => True
  | p :: r => PSpecOk B p.1 p.2 ∧ AllP B r
theorem lookP_ok {B : Env} : ∀ {l : List (FuncId × PSpec)}, AllP B l → PSOk B (lookP l)
  | [], h, f, S, e => by cases e
  | p :: r, h, f, S, e => by
    simp only [lookP] at e
    cases hb : Nat.beq p.1 f with
    | true => rw [hb] at e; cases e; rw [← Nat.eq_of_beq_eq_true hb]; exact h.1
    | false => rw [hb] at e; exact lookP_ok h.2 f S e
end code
end Go.Proofs.YtchljgmcempedaaGreatDoor
