/- Contracts of functions, by evaluation (nothing is claimed here). -/
import Derived.Test.YtchljgmcempedaaGreatDoorSh38
import Derived.KernelRfl
import Derived.Test.YtchljgmcempedaaGreatDoorProg
import Derived.Test.YtchljgmcempedaaGreatDoorReplayMatchesReferenceB1
set_option linter.unusedVariables false
set_option linter.unusedSimpArgs false
set_option maxRecDepth 100000
set_option maxHeartbeats 1000000
namespace Go.Proofs.YtchljgmcempedaaGreatDoor
open Go
/-! Ktwin -/
/-- two hosts that agree in a partition -/
structure K.Twin (p : PPart) (a b : PMach) : Prop where
  time : a.time = b.time
  len : a.mem.length = b.mem.length
  mem : ∀ i : Int, p.base ≤ i → i < p.base + p.size → a.mem.getD i.toNat 0 = b.mem.getD i.toNat 0
theorem win_twin {D1 D2 : PMach} {v : PVcpu} {p : PPart} {alarm : Int} (d1 : K.Disp D1 v p alarm) (d2 : K.Disp D2 v p alarm) (f1 : K.Fit D1 v p) (f2 : K.Fit D2 v p) (tw : K.Twin p D1 D2) : K.Win 0 p.base (p.base + p.size) D1 D2 := by
  have W1 := disp_win (T := 0) d1 f1
  have W2 := disp_win (T := 0) d2 f2
  have hl : (K.bare D2 v p 0).mem.length = (K.bare D1 v p 0).mem.length := by
    have e1 := bare_len (T := 0) f1
    have e2 := bare_len (T := 0) f2
    omega
  have hg : ∀ a n, K.cell (K.bare D2 v p 0) a n = K.cell (K.bare D1 v p 0) a n := fun a n => cell_congr (m := K.bare D1 v p 0) (m' := K.bare D2 v p 0) rfl hl a n
  have hc : ∀ a n, 0 ≤ a → (n = 1 ∨ n = 4) → K.cell D1 a n = K.cell D2 a n := fun a n a0 hn => by rw [W1.cell a n a0 hn, W2.cell a n a0 hn, hg]
  have p0 := f1.p0
  refine ⟨d1.regs.trans d2.regs.symm, d1.pc.trans d2.pc.symm, fun a n a0 hn => ?_, fun a n a0 hn hz => ?_, f1.p0, by have := f1.p0; omega, f2.fit, by have := f1.fit; omega, fun i h0 h1 => by rw [Int.add_zero]; exact tw.mem i h0 h1⟩
  · rw [hc a n a0 hn]
    by_cases hz : (K.cell D2 a n).2.cause = 0
    · rw [if_pos hz, Int.add_zero]
    · rw [if_neg hz]
      exact Prod.ext (cell_first hz) rfl
  · have e := W2.cell a n a0 hn
    have hz2 : (K.cell (K.bare D2 v p 0) a n).2.cause = 0 := by rw [e] at hz; exact hz
    have r := W2.range a n a0 hn hz2
    rw [e, if_pos hz2]
    show p.base ≤ (K.cell (K.bare D2 v p 0) a n).1 + p.base ∧ (K.cell (K.bare D2 v p 0) a n).1 + p.base + n ≤ p.base + p.size
    omega
theorem twin_step {D1 D2 a b : PMach} {v : PVcpu} {p : PPart} {alarm n : Int} (ht : D1.time = D2.time) (R1 : K.Runs D1 v p alarm a n) (R2 : K.Runs D2 v p alarm b n) (W : K.Win 0 p.base (p.base + p.size) a b) :
    (K.step a).2 = (K.step b).2 ∧ ((K.step a).2.cause = 0 → K.Win 0 p.base (p.base + p.size) (K.step a).1 (K.step b).1) := by
  have e1 : a.time = b.time := by rw [R1.time, R2.time, ht]
  have i1 : K.ie a.core = true := by unfold K.ie; rw [R1.disp.st]; rfl
  have i2 : K.ie b.core = true := by unfold K.ie; rw [R2.disp.st]; rfl
  have hd : K.due a = K.due b := by unfold K.due; rw [i1, i2, R1.disp.cmp, R2.disp.cmp, e1]
  cases hq : K.due b with
  | true =>
    rw [hq] at hd
    rw [step_due R1.user.go hd, step_due R2.user.go hq]
    exact ⟨rfl, fun h => absurd (show (6 : Int) = 0 from h) (by omega)⟩
  | false =>
    rw [hq] at hd
    rw [step_plain hd, step_plain hq, plain_raw R1.user.go, plain_raw R2.user.go]
    obtain ⟨w1, w2, _, _⟩ := W.rawP (okI_u32 R2.good.core.pc).1 R1.user.user R2.user.user
    refine ⟨w1, fun hz => ?_⟩
    have hz1 : (K.rawP a).2 = ⟨0, 0⟩ := rawP_zero hz
    have hz2 : (K.rawP b).2 = ⟨0, 0⟩ := w1.symm.trans hz1
    rw [hz1, hz2]
    unfold K.endS
    rw [enter_none, enter_none]
    exact w2.keep rfl rfl rfl rfl w2.regs w2.pc w2.mem
theorem untl_twin {D1 D2 : PMach} {v : PVcpu} {p : PPart} {alarm : Int} (ht : D1.time = D2.time) (f1 : K.Fit D1 v p) (f2 : K.Fit D2 v p) (hv : v.halted = false) (a1 : alarm < 18446744073709551615) (t0 : 0 ≤ D1.time) (ha : K.ie v.core = true → alarm ≤ K.cmp v.core.csr) :
    ∀ (f : Nat) {a b : PMach} {n : Int}, K.Runs D1 v p alarm a n → K.Runs D2 v p alarm b n → K.Win 0 p.base (p.base + p.size) a b →
      (K.untl f a n).isSome = true → ∃ a' b' m, K.Runs D1 v p alarm a' m ∧ K.Runs D2 v p alarm b' m ∧ K.Win 0 p.base (p.base + p.size) a' b' ∧ (K.step a').2.cause ≠ 0 ∧ (K.step a').2 = (K.step b').2 ∧ K.untl f a n = some ((K.step a').1, m, (K.step a').2, a'.time) ∧ K.untl f b n = some ((K.step b').1, m, (K.step b').2, b'.time)
  | 0, _, _, _, _, _, _, h => by cases h
  | f + 1, a, b, n, R1, R2, W, h => by
    obtain ⟨s1, s2⟩ := twin_step ht R1 R2 W
    rw [untl_succ] at h ⊢
    rw [untl_succ]
    by_cases hz : (K.step a).2.cause = 0
    · have hz2 : (K.step b).2.cause = 0 := by rw [← s1]; exact hz
      rw [if_pos hz] at h ⊢
      rw [if_pos hz2]
      exact untl_twin ht f1 f2 hv a1 t0 ha f (R1.next f1 hv a1 t0 ha hz) (R2.next f2 hv a1 (by omega) ha hz2) (s2 hz) h
    · have hz2 : ¬ (K.step b).2.cause = 0 := by rw [← s1]; exact hz
      rw [if_neg hz] at h ⊢
      rw [if_neg hz2]
      exact ⟨a, b, n, R1, R2, W, hz, s1, rfl, rfl⟩
/-- a turn that runs: where it starts -/
theorem alarm_at {v : PVcpu} {t end_ : Int} (hv : v.halted = false) (hp : K.pending v t = false) (t1 : t < end_) : K.alarm v end_ ≤ end_ ∧ t < K.alarm v end_ ∧ (K.ie v.core = true → K.alarm v end_ ≤ K.cmp v.core.csr) := by
  unfold K.pending at hp
  rw [hv] at hp
  unfold K.alarm
  cases hi : K.ie v.core with
  | false => rw [if_neg (by simp)]; exact ⟨Int.le_refl _, t1, fun h => by cases h⟩
  | true =>
    rw [hi] at hp
    have hq : ¬ t ≥ K.cmp v.core.csr := by simpa using hp
    by_cases hlt : K.cmp v.core.csr < end_
    · rw [if_pos ⟨rfl, hlt⟩]; exact ⟨by omega, by omega, fun _ => Int.le_refl _⟩
    · rw [if_neg (fun q => hlt q.2)]; exact ⟨Int.le_refl _, t1, fun _ => by omega⟩
theorem turn1_twin {h1 h2 : PMach} {v : PVcpu} {p : PPart} {end_ : Int} (g1 : K.Good h1) (g2 : K.Good h2) (c : okCore v.core) (hf : K.vform v = true) (hh1 : h1.halted = false) (hh2 : h2.halted = false) (hv : v.halted = false) (p0 : 0 ≤ p.base) (p1 : 0 ≤ p.size) (pf : p.base + p.size ≤ h1.mem.length) (ms : h1.mem.length ≤ 1073741824)
    (t1 : h1.time < end_) (t2 : end_ ≤ h1.time + 900) (t3 : end_ < 18446744073709550000) (tw : K.Twin p h1 h2) :
    K.Twin p (K.turn1 h1 v p end_).1 (K.turn1 h2 v p end_).1 ∧ (K.turn1 h1 v p end_).2 = (K.turn1 h2 v p end_).2 := by
  obtain ⟨hz0, hd0⟩ := vform_zero hf
  have t0 := g1.t0
  have hpt : K.pending v h2.time = K.pending v h1.time := by rw [tw.time]
  have htw := tw.time
  have hlw := tw.len
  by_cases hp : K.pending v h1.time = true
  · have e1 : K.turn1 h1 v p end_ = (h1, K.inject v h1.time) := by unfold K.turn1; rw [if_pos hp]
    have e2 : K.turn1 h2 v p end_ = (h2, K.inject v h1.time) := by unfold K.turn1; rw [if_pos (hpt.trans hp), ← htw]
    rw [e1, e2]
    exact ⟨tw, rfl⟩
  · have hpf : K.pending v h1.time = false := by simpa using hp
    have h5 := c.csr.u32 (i := 5) (by omega)
    have h6 := c.csr.u32 (i := 6) (by omega)
    have h9 := c.csr.u32 (i := 9) (by omega)
    have h10 := c.csr.u32 (i := 10) (by omega)
    have hcm : 0 ≤ K.cmp v.core.csr := by unfold K.cmp; omega
    obtain ⟨ha1, ha2, ha3⟩ := alarm_at hv hpf t1
    have hpf2 : ¬ K.pending v h2.time = true := by rw [hpt]; exact hp
    have e1 : K.turn1 h1 v p end_ = ((K.until (K.dispatch h1 v p (K.alarm v end_))).1, K.handle { K.save (K.until (K.dispatch h1 v p (K.alarm v end_))).1 v with done := IntKind.i64.wrap (v.done + (K.until (K.dispatch h1 v p (K.alarm v end_))).2.1) } (K.until (K.dispatch h1 v p (K.alarm v end_))).2.2.1 (K.until (K.dispatch h1 v p (K.alarm v end_))).2.2.2) := by unfold K.turn1; rw [if_neg hp]
    have e2 : K.turn1 h2 v p end_ = ((K.until (K.dispatch h2 v p (K.alarm v end_))).1, K.handle { K.save (K.until (K.dispatch h2 v p (K.alarm v end_))).1 v with done := IntKind.i64.wrap (v.done + (K.until (K.dispatch h2 v p (K.alarm v end_))).2.1) } (K.until (K.dispatch h2 v p (K.alarm v end_))).2.2.1 (K.until (K.dispatch h2 v p (K.alarm v end_))).2.2.2) := by unfold K.turn1; rw [if_neg hpf2]
    generalize K.alarm v end_ = alarm at *
    have d1 := dispatch_disp (host := h1) (v := v) (p := p) (alarm := alarm) g1.core.csr.1 (by omega) (by omega) hz0 hh1
    have d2 := dispatch_disp (host := h2) (v := v) (p := p) (alarm := alarm) g2.core.csr.1 (by omega) (by omega) hz0 hh2
    have gd1 := dispatch_good (host := h1) (v := v) (p := p) (alarm := alarm) g1 c p0 p1 (by omega) (by omega) (by omega) (by omega)
    have gd2 := dispatch_good (host := h2) (v := v) (p := p) (alarm := alarm) g2 c p0 p1 (by omega) (by omega) (by omega) (by omega)
    obtain ⟨q1, q2, q3, q4, q5, q6, q7⟩ := dispatch_facts (host := h1) (v := v) (p := p) (alarm := alarm) g1.core.csr.1 p0 p1 (by omega) h5.1 h6.1 (by omega) (by omega)
    obtain ⟨r1, r2, r3, r4, r5, r6, r7⟩ := dispatch_facts (host := h2) (v := v) (p := p) (alarm := alarm) g2.core.csr.1 p0 p1 (by omega) h5.1 h6.1 (by omega) (by omega)
    obtain ⟨_, _, _, _, _, _, _, _, eu, es⟩ := until_facts (D := K.dispatch h1 v p alarm) (k := (alarm - h1.time).toNat) ⟨q5, q1, hh1, rfl, rfl⟩ q2 (by rw [q3]; show alarm ≤ h1.time + _; omega) t0 (by show h1.time + _ + 1 < _; omega) (by omega)
    have f1 : K.Fit (K.dispatch h1 v p alarm) v p := ⟨p0, p1, pf, by show h1.mem.length < 4294967296; omega, h5.1, h6.1⟩
    have f2 : K.Fit (K.dispatch h2 v p alarm) v p := ⟨p0, p1, by show p.base + p.size ≤ h2.mem.length; omega, by show h2.mem.length < 4294967296; omega, h5.1, h6.1⟩
    have W := win_twin d1 d2 f1 f2 ⟨tw.time, tw.len, tw.mem⟩
    obtain ⟨a, b, m, R1, R2, W', hz, hs, u1, u2⟩ := untl_twin (D1 := K.dispatch h1 v p alarm) (D2 := K.dispatch h2 v p alarm) tw.time f1 f2 hv (by omega) t0 ha3 1000 (runs_start d1 gd1 q1 (by show h1.time ≤ alarm; omega)) (runs_start d2 gd2 r1 (by show h2.time ≤ alarm; omega)) W es
    have k1 : K.until (K.dispatch h1 v p alarm) = ((K.step a).1, m, (K.step a).2, a.time) := by unfold K.until; rw [u1]; rfl
    have k2 : K.until (K.dispatch h2 v p alarm) = ((K.step b).1, m, (K.step b).2, b.time) := by unfold K.until; rw [u2]; rfl
    have hz2 : (K.step b).2.cause ≠ 0 := by rw [← hs]; exact hz
    obtain ⟨s1, s2, s3, s4, s5, s6, s7, s8, s9⟩ := step_trapped R1.user.len R1.user.go hz
    obtain ⟨x1, x2, x3, x4, x5, x6, x7, x8, x9⟩ := step_trapped R2.user.len R2.user.go hz2
    have et : a.time = b.time := by rw [R1.time, R2.time]; show h1.time + m = h2.time + m; omega
    have st1 := (step_facts R1.user.len R1.user.go).1
    have st2 := (step_facts R2.user.len R2.user.go).1
    rw [e1, e2, k1, k2]
    have hsv : K.save (K.step a).1 v = K.save (K.step b).1 v := by
      unfold K.save; rw [s6, x6, s3, x3, W'.regs, W'.pc]
    refine ⟨⟨by show (K.step a).1.time = (K.step b).1.time; rw [st1, st2, et], ?_, fun i i0 i1 => ?_⟩, ?_⟩
    · show (K.step a).1.mem.length = (K.step b).1.mem.length
      rw [s7, x7, R1.only.len, R2.only.len]; exact tw.len
    · show (K.step a).1.mem.getD i.toNat 0 = (K.step b).1.mem.getD i.toNat 0
      rw [s7, x7]
      have := W'.mem i i0 i1
      rw [Int.add_zero] at this; exact this
    · simp only [hsv, hs, et]
theorem turnF_twin {p : PPart} {v0 : PVcpu} {end_ : Int} (p0 : 0 ≤ p.base) (p1 : 0 ≤ p.size) (t3 : end_ < 18446744073709550000) {h10 h20 : PMach} (hh1 : h10.halted = false) (hh2 : h20.halted = false) (pf1 : p.base + p.size ≤ h10.mem.length) (ms1 : h10.mem.length ≤ 1073741824) (pf2 : p.base + p.size ≤ h20.mem.length) (ms2 : h20.mem.length ≤ 1073741824) (t1 : end_ ≤ h10.time + 900) (t2 : end_ ≤ h20.time + 900) (hd : v0.done ≤ 2305843009213693952) :
    ∀ (f : Nat) {h1 h2 : PMach} {w : PVcpu}, K.SliceInv p h10 v0 end_ h1 w → K.SliceInv p h20 v0 end_ h2 w → K.Twin p h1 h2 →
      K.Twin p (K.turnF p end_ f h1 w).1 (K.turnF p end_ f h2 w).1 ∧ (K.turnF p end_ f h1 w).2 = (K.turnF p end_ f h2 w).2
  | 0, _, _, _, _, _, tw => ⟨tw, rfl⟩
  | f + 1, h1, h2, w, I1, I2, tw => by
    unfold K.turnF
    by_cases hx : w.halted = true ∨ h1.time ≥ end_
    · rw [if_pos hx, if_pos (by rw [← tw.time]; exact hx)]
      exact ⟨tw, rfl⟩
    · rw [if_neg hx, if_neg (by rw [← tw.time]; exact hx)]
      have hv : w.halted = false := by
        cases hq : w.halted with
        | false => rfl
        | true => exact absurd (.inl hq) hx
      have ht : h1.time < end_ := by
        have : ¬ h1.time ≥ end_ := fun q => hx (.inr q)
        omega
      have i1 := I1.turns.time
      have i2 := I2.turns.time
      have htw := tw.time
      obtain ⟨n1, n2⟩ := turn1_twin (p := p) (end_ := end_) I1.good I2.good I1.core I1.form (I1.turns.hgo.trans hh1) (I2.turns.hgo.trans hh2) hv p0 p1 (by rw [I1.turns.only.len]; exact pf1) (by rw [I1.turns.only.len]; exact ms1) ht (by omega) t3 tw
      have J1 := I1.next hh1 p0 p1 pf1 ms1 t1 t3 hd hv ht
      have J2 := I2.next hh2 p0 p1 pf2 ms2 t2 t3 hd hv (by omega)
      rw [← n2] at J2 ⊢
      exact turnF_twin p0 p1 t3 hh1 hh2 pf1 ms1 pf2 ms2 t1 t2 hd f J1 J2 n1




/-! Kone -/
theorem slice_fin (host : PMach) (v : PVcpu) (p : PPart) (q : Int) : K.slice host v p q = (⟨⟨List.replicate 16 0, 0, (K.turnF p (K.deadline host q) 1000 host v).1.core.csr.set 0 1⟩, (K.turnF p (K.deadline host q) 1000 host v).1.mem, (K.turnF p (K.deadline host q) 1000 host v).1.time, (K.turnF p (K.deadline host q) 1000 host v).1.out, (K.turnF p (K.deadline host q) 1000 host v).1.halted⟩, (K.turnF p (K.deadline host q) 1000 host v).2) := rfl
theorem slice_start {host : PMach} {v : PVcpu} {p : PPart} {end_ : Int} (g : K.Good host) (c : okCore v.core) (hf : K.vform v = true) (h1 : host.time ≤ end_) : K.SliceInv p host v end_ host v := by
  have hi : (if K.pending v host.time = true then (1 : Int) else 0) ≤ 1 := by split <;> omega
  exact ⟨.refl _ _ _, g, c, hf, by omega, .inl ⟨rfl, rfl⟩, by omega⟩
/-- the least quantum -/
theorem slice_one {host : PMach} {v : PVcpu} {p : PPart} {q : Int} (g : K.Good host) (c : okCore v.core) (hf : K.vform v = true) (hh : host.halted = false) (hv : v.halted = false) (p0 : 0 ≤ p.base) (p1 : 0 ≤ p.size) (pf : p.base + p.size ≤ host.mem.length) (ms : host.mem.length ≤ 1073741824) (ht : host.time ≤ 4611686018427387904) (hq : q ≤ 1) (hd : v.done ≤ 2305843009213693952) :
    host.time < (K.slice host v p q).1.time ∧ (K.slice host v p q).1.time ≤ host.time + 2 ∧
    ((K.slice host v p q).2.done = v.done + 1 ∨ ((K.slice host v p q).2.done = v.done + 2 ∧ v.log.length < (K.slice host v p q).2.log.length ∧ ((K.slice host v p q).2.log.getD v.log.length ⟨0, 0, 0⟩).kind = 1)) := by
  have t0 := g.t0
  have hdl : K.deadline host q = host.time + 1 := by unfold K.deadline; omega
  have stop : ∀ (f : Nat) (h : PMach) (w : PVcpu), host.time + 1 ≤ h.time → K.turnF p (host.time + 1) f h w = (h, w) := fun f h w hx => by
    cases f with
    | zero => rfl
    | succ f => unfold K.turnF; rw [if_pos (.inr hx)]
  have go : ∀ (f : Nat) (w : PVcpu), w.halted = false → K.turnF p (host.time + 1) (f + 1) host w = K.turnF p (host.time + 1) f (K.turn1 host w p (host.time + 1)).1 (K.turn1 host w p (host.time + 1)).2 := fun f w hw => by
    rw [show K.turnF p (host.time + 1) (f + 1) host w = (if w.halted = true ∨ host.time ≥ host.time + 1 then (host, w) else K.turnF p (host.time + 1) f (K.turn1 host w p (host.time + 1)).1 (K.turn1 host w p (host.time + 1)).2) from rfl, if_neg]
    rintro (h | h)
    · rw [hw] at h; cases h
    · omega
  rw [slice_fin, hdl]
  obtain ⟨a1, a2, a3, a4, a5⟩ := turn1_turns (p := p) (end_ := host.time + 1) g c hf hh hv p0 p1 pf ms (by omega) (by omega) (by omega) (by omega)
  rw [show (1000 : Nat) = 998 + 1 + 1 from rfl, go _ _ hv]
  rcases a5 with ⟨c1, c2⟩ | ⟨c1, c2, c3, c4, c5, c6⟩
  · have hinc : (K.inject v host.time).done = v.done + 1 := by
      show K.inc v.done = _
      unfold K.inc; rw [if_neg (by omega)]
    rw [c2] at a1 a2 a3 a4 ⊢
    rw [go 998 (K.inject v host.time) hv]
    obtain ⟨b1, b2, b3, b4, b5⟩ := turn1_turns (v := K.inject v host.time) (p := p) (end_ := host.time + 1) g a3 a4 hh hv p0 p1 pf ms (by omega) (by omega) (by omega) (by omega)
    rcases b5 with ⟨d1, d2⟩ | ⟨d1, d2, d3, d4, d5, d6⟩
    · rw [pending_inject c] at d1; cases d1
    · rw [stop _ _ _ (by omega)]
      refine ⟨d2, by show (K.turn1 host (K.inject v host.time) p (host.time + 1)).1.time ≤ _; omega, .inr ⟨by show (K.turn1 host (K.inject v host.time) p (host.time + 1)).2.done = _; omega, ?_⟩⟩
      obtain ⟨l, l1, _⟩ := b1.log
      have hl : (K.turn1 host (K.inject v host.time) p (host.time + 1)).2.log = v.log ++ (⟨1, v.done, host.time⟩ :: l) := by rw [l1]; show v.log ++ [_] ++ l = _; rw [List.append_assoc]; rfl
      show v.log.length < (K.turn1 host (K.inject v host.time) p (host.time + 1)).2.log.length ∧ ((K.turn1 host (K.inject v host.time) p (host.time + 1)).2.log.getD v.log.length ⟨0, 0, 0⟩).kind = 1
      rw [hl]
      refine ⟨by simp, ?_⟩
      simp
  · rw [stop _ _ _ (by omega)]
    exact ⟨c2, by show (K.turn1 host v p (host.time + 1)).1.time ≤ _; omega, .inl (by show (K.turn1 host v p (host.time + 1)).2.done = _; omega)⟩
theorem window_eq {a b : List Int} {base size : Int} (b0 : 0 ≤ base) (hl : a.length = b.length) (hf : base + size ≤ b.length) (h : ∀ i : Int, base ≤ i → i < base + size → a.getD i.toNat 0 = b.getD i.toNat 0) : (a.drop base.toNat).take size.toNat = (b.drop base.toNat).take size.toNat := by
  apply List.ext_getElem?
  intro i
  rw [List.getElem?_take, List.getElem?_take, List.getElem?_drop, List.getElem?_drop]
  by_cases hi : i < size.toNat
  · rw [if_pos hi, if_pos hi]
    have := h (base + i) (by omega) (by omega)
    rw [show (base + (i : Int)).toNat = base.toNat + i by omega] at this
    rw [List.getElem?_eq_getElem (by omega), List.getElem?_eq_getElem (by omega)]
    rw [List.getD_eq_getElem?_getD, List.getD_eq_getElem?_getD, List.getElem?_eq_getElem (by omega), List.getElem?_eq_getElem (by omega)] at this
    simpa using this
  · rw [if_neg hi, if_neg hi]
theorem slice_twin {host x : PMach} {v : PVcpu} {p : PPart} {q : Int} (g : K.Good host) (gx : K.Good x) (c : okCore v.core) (hf : K.vform v = true) (hh : host.halted = false) (hx : x.halted = false) (p0 : 0 ≤ p.base) (p1 : 0 ≤ p.size) (pf : p.base + p.size ≤ host.mem.length) (ms : host.mem.length ≤ 1073741824) (ht : host.time ≤ 4611686018427387904) (hq : q ≤ 60) (hd : v.done ≤ 2305843009213693952) (tw : K.Twin p host x) :
    K.Twin p (K.slice host v p q).1 (K.slice x v p q).1 ∧ (K.slice host v p q).2 = (K.slice x v p q).2 := by
  have t0 := g.t0
  have hdl : K.deadline host q = host.time + max q 1 := by unfold K.deadline; omega
  have hdx : K.deadline x q = K.deadline host q := by unfold K.deadline; rw [tw.time]
  have htw := tw.time
  have hlw := tw.len
  have ix : K.SliceInv p x v (K.deadline host q) x v := slice_start gx c hf (by omega)
  obtain ⟨n1, n2⟩ := turnF_twin p0 p1 (by omega) hh hx pf ms (by omega) (by omega) (by omega) (by omega) hd 1000 (slice_start (p := p) (end_ := K.deadline host q) g c hf (by omega)) ix tw
  rw [slice_fin, slice_fin, hdx]
  exact ⟨⟨n1.time, n1.len, n1.mem⟩, n2⟩
theorem exec_lens (m : PMach) (i : PInstr) : (K.exec m i).1.mem.length = m.mem.length ∧ (K.exec m i).1.out = m.out := ⟨exec_len m i, (exec_same m i).2.1⟩
theorem plain_lens (m : PMach) : (K.plain m).1.mem.length = m.mem.length ∧ (K.plain m).1.out.length ≤ m.out.length + 1 := by
  unfold K.plain
  split
  · exact ⟨rfl, Nat.le_succ _⟩
  split
  · exact ⟨rfl, Nat.le_succ _⟩
  split
  · refine ⟨by show (K.priv m _).mem.length = _; rw [K.priv_mem], ?_⟩
    show (K.priv m _).out.length ≤ _
    rw [K.priv_out]; split <;> simp
  · have e := exec_lens m (K.cur m).1
    exact ⟨e.1, by show (K.exec m _).1.out.length ≤ _; rw [e.2]; omega⟩
theorem step_lens (m : PMach) : (K.step m).1.mem.length = m.mem.length ∧ (K.step m).1.out.length ≤ m.out.length + 1 := by
  unfold K.step
  split
  · exact ⟨rfl, Nat.le_succ _⟩
  · exact plain_lens m
theorem rep_lens {log : List PEvent} : ∀ (n : Nat) (i : Int) {m : PMach} {seen : Nat} {last : Int} {z : PMach × Nat × Int}, K.rep log n i (m, seen, last) = some z → z.1.out.length ≤ m.out.length + n ∧ z.2.1 ≤ seen + n ∧ z.1.mem.length = m.mem.length
  | 0, i, m, seen, last, z, h => by
    simp only [K.rep] at h
    cases h
    exact ⟨Nat.le_refl _, Nat.le_refl _, rfl⟩
  | n + 1, i, m, seen, last, z, h => by
    obtain ⟨_, h⟩ := rep_cases h
    rcases h with ⟨_, _, h⟩ | ⟨_, _, h⟩
    · obtain ⟨a, b, c⟩ := rep_lens n (i + 1) h
      have := plain_lens m
      exact ⟨by omega, by omega, by rw [c, this.1]⟩
    · rcases h with ⟨_, _, h⟩ | ⟨_, h⟩
      · obtain ⟨a, b, c⟩ := rep_lens n (i + 1) h
        have : _ ∧ (K.step (K.timed m (log.getD seen ⟨0, 0, 0⟩).time)).1.out.length ≤ m.out.length + 1 := step_lens (K.timed m (log.getD seen ⟨0, 0, 0⟩).time)
        exact ⟨by omega, by omega, by rw [c, this.1]; rfl⟩
      · obtain ⟨a, b, c⟩ := rep_lens n (i + 1) h
        have : _ ∧ (K.plain (K.timed m (log.getD seen ⟨0, 0, 0⟩).time)).1.out.length ≤ m.out.length + 1 := plain_lens (K.timed m (log.getD seen ⟨0, 0, 0⟩).time)
        exact ⟨by omega, by omega, by rw [c, this.1]; rfl⟩
theorem turns_host {p : PPart} {h0 h h2 : PMach} {v0 w : PVcpu} (t : K.Turns p h0 v0 h w) (e1 : h2.mem = h.mem) (e2 : h2.time = h.time) (e3 : h2.out = h.out) (e4 : h2.halted = h.halted) : K.Turns p h0 v0 h2 w :=
  ⟨t.out, t.log, t.done, by rw [e1]; exact t.only, by rw [e2]; exact t.time, e3.trans t.hout, e4.trans t.hgo, fun T0 last0 hl => by
    obtain ⟨T, last, a, b⟩ := t.rep T0 last0 hl
    refine ⟨T, last, by rw [e2]; exact a, b.trans ?_⟩
    unfold K.bare; rw [e1]⟩
/-- a time slice, from the host and the guest that it starts with to those that it leaves -/
structure K.SliceOf (host : PMach) (v : PVcpu) (p : PPart) (q : Int) (h : PMach) (w : PVcpu) : Prop where
  turns : K.Turns p host v h w
  good : K.Good h
  core : okCore w.core
  form : K.vform w = true
  go : h.halted = false
  clear : h.core.regs = List.replicate 16 0 ∧ h.core.pc = 0 ∧ h.core.csr.getD 0 0 = 1
  le : h.time ≤ host.time + max q 1 + 1
  fin : w.halted = true ∨ host.time + max q 1 ≤ h.time
  idle : v.halted = true → w = v ∧ h.mem = host.mem ∧ h.time = host.time
  run : v.halted = false → v.done < w.done
  steps : w.done ≤ v.done + 2 * max q 1 + 3
  few : w.out.length ≤ v.out.length + 200 ∧ w.log.length ≤ v.log.length + 200
theorem slice_of {host : PMach} {v : PVcpu} {p : PPart} {q : Int} (g : K.Good host) (c : okCore v.core) (hf : K.vform v = true) (hh : host.halted = false) (p0 : 0 ≤ p.base) (p1 : 0 ≤ p.size) (pf : p.base + p.size ≤ host.mem.length) (ms : host.mem.length ≤ 1073741824) (ht : host.time ≤ 4611686018427387904) (hq : q ≤ 60) (hd : v.done ≤ 2305843009213693952) :
    K.SliceOf host v p q (K.slice host v p q).1 (K.slice host v p q).2 := by
  have t0 := g.t0
  have hdl : K.deadline host q = host.time + max q 1 := by unfold K.deadline; omega
  obtain ⟨h', w, e, I, hx, hi, hr⟩ := slice_inv g c hf hh p0 p1 pf ms ht hq hd
  rw [e]
  have hl := I.good.core.csr.1
  have hm := I.meas
  have hle := I.le
  rw [hdl] at hm hle
  have hst : w.done ≤ v.done + 2 * max q 1 + 3 := by split at hm <;> omega
  have z : (0 : Int) ≤ 0 ∧ (0 : Int) < 4294967296 := by omega
  obtain ⟨T, last, _, hrep⟩ := I.turns.rep 0 host.time (Int.le_refl _)
  obtain ⟨f1, f2, _⟩ := rep_lens _ _ hrep
  have hdn := I.turns.done
  refine ⟨turns_host I.turns rfl rfl rfl rfl, ⟨⟨⟨by simp, fun x hx => by rw [(List.mem_replicate.1 hx).2]; exact mkI_u32 z.1 z.2⟩, mkI_u32 z.1 z.2, I.good.core.csr.set (mkI_u32 (by omega) (by omega))⟩, I.good.mem, I.good.t0, I.good.t1⟩, I.core, I.form, I.turns.hgo.trans hh, ⟨rfl, rfl, ?_⟩, hle, ?_, fun hv => ?_, fun hv => (hr hv).1, hst, ?_⟩
  · show (h'.core.csr.set 0 1).getD 0 0 = 1
    rw [K.set_at (by omega), if_pos rfl]
  · rw [hdl] at hx; exact hx
  · obtain ⟨a, b⟩ := hi hv
    exact ⟨b, by rw [a], by rw [a]⟩
  · have f1 : w.out.length ≤ v.out.length + (w.done - v.done).toNat := f1
    have f2 : w.log.length ≤ v.log.length + (w.done - v.done).toNat := f2
    exact ⟨by show w.out.length ≤ _; omega, by show w.log.length ≤ _; omega⟩
theorem good_of {m : PMach} (h : okMach m) : K.Good m := ⟨h.core, bytes_ok h.mem, (okI_u64 h.time).1, (okI_u64 h.time).2⟩
theorem slice_q {host : PMach} {v : PVcpu} {p : PPart} {q r : Int} (h : K.deadline host q = K.deadline host r) : K.slice host v p q = K.slice host v p r := by unfold K.slice; rw [h]




/-! Kname -/
def K.names : List ByteArray := [⟨#[115, 116, 97, 116, 117, 115]⟩, ⟨#[101, 112, 99]⟩, ⟨#[99, 97, 117, 115, 101]⟩, ⟨#[116, 118, 97, 108]⟩, ⟨#[116, 118, 101, 99]⟩, ⟨#[98, 97, 115, 101]⟩, ⟨#[98, 111, 117, 110, 100]⟩, ⟨#[116, 105, 109, 101]⟩, ⟨#[116, 105, 109, 101, 104]⟩, ⟨#[99, 109, 112]⟩, ⟨#[99, 109, 112, 104]⟩, ⟨#[115, 99, 114, 97, 116, 99, 104]⟩]
def K.csrName (n : Int) : ByteArray := if 0 ≤ n ∧ n < 12 then K.names.getD n.toNat ⟨#[]⟩ else ⟨#[]⟩
/-- the last name below j that is s -/
def K.want (s : ByteArray) : Nat → Int
  | 0 => -1
  | j + 1 => if (K.csrName (j : Int)).toList = s.toList then (j : Int) else K.want s j
def K.csrNum (s : ByteArray) : Int × Bool := (max (K.want s 12) 0, decide (K.want s 12 ≥ 0))
def K.reset : List Int := [1, 0, 0, 0, 0, 0, 0, 0, 0, 4294967295, 4294967295, 0]
def K.nameL (j : Nat) : List UInt8 := (K.names.getD j ⟨#[]⟩).toList
theorem nameL_0 : K.nameL 0 = [115, 116, 97, 116, 117, 115] := by kernel_rfl
theorem nameL_1 : K.nameL 1 = [101, 112, 99] := by kernel_rfl
theorem nameL_2 : K.nameL 2 = [99, 97, 117, 115, 101] := by kernel_rfl
theorem nameL_3 : K.nameL 3 = [116, 118, 97, 108] := by kernel_rfl
theorem nameL_4 : K.nameL 4 = [116, 118, 101, 99] := by kernel_rfl
theorem nameL_5 : K.nameL 5 = [98, 97, 115, 101] := by kernel_rfl
theorem nameL_6 : K.nameL 6 = [98, 111, 117, 110, 100] := by kernel_rfl
theorem nameL_7 : K.nameL 7 = [116, 105, 109, 101] := by kernel_rfl
theorem nameL_8 : K.nameL 8 = [116, 105, 109, 101, 104] := by kernel_rfl
theorem nameL_9 : K.nameL 9 = [99, 109, 112] := by kernel_rfl
theorem nameL_10 : K.nameL 10 = [99, 109, 112, 104] := by kernel_rfl
theorem nameL_11 : K.nameL 11 = [115, 99, 114, 97, 116, 99, 104] := by kernel_rfl
theorem name_at {j : Nat} (h : j < 12) : (K.csrName (j : Int)).toList = K.nameL j := by
  unfold K.csrName K.nameL; rw [if_pos ⟨by omega, by omega⟩]; rfl
theorem nameL_ne {i j : Nat} (hi : i < 12) (hj : j < 12) (h : i ≠ j) : K.nameL i ≠ K.nameL j := by
  have key : (List.range 12).all (fun a => (List.range 12).all fun b => a == b || !(K.nameL a == K.nameL b)) = true := by kernel_rfl
  rw [List.all_eq_true] at key
  have k1 := key i (List.mem_range.2 hi)
  rw [List.all_eq_true] at k1
  have k2 := k1 j (List.mem_range.2 hj)
  intro e
  rw [e] at k2
  simp [h] at k2
theorem want_none {s : ByteArray} : ∀ (n : Nat), n ≤ 12 → (∀ j, j < n → s.toList ≠ K.nameL j) → K.want s n = -1
  | 0, _, _ => rfl
  | n + 1, hn, h => by
    unfold K.want
    rw [if_neg (by rw [name_at (by omega)]; exact fun e => h n (by omega) e.symm)]
    exact want_none n (by omega) fun j hj => h j (by omega)
theorem want_some {s : ByteArray} {j : Nat} (hj : j < 12) (h : s.toList = K.nameL j) : ∀ (n : Nat), n ≤ 12 → j < n → K.want s n = (j : Int)
  | 0, _, h => absurd h (Nat.not_lt_zero _)
  | n + 1, hn, hlt => by
    unfold K.want
    rw [name_at (by omega), h]
    by_cases e : n = j
    · subst e; rw [if_pos rfl]
    · rw [if_neg (nameL_ne (by omega) hj e)]
      exact want_some hj h n (by omega) (by omega)
theorem want_le (s : ByteArray) : ∀ (n : Nat), -1 ≤ K.want s n ∧ K.want s n < n
  | 0 => by show -1 ≤ (-1 : Int) ∧ (-1 : Int) < ((0 : Nat) : Int); omega
  | n + 1 => by
    have := want_le s n
    unfold K.want; split <;> omega




/-! Kreplay -/
/-- bytes written into a memory -/
def K.wr (m : List Int) (a : Int) (b : List Int) : List Int := m.take a.toNat ++ (b ++ m.drop (a.toNat + b.length))
def K.writeAt (m : List Int) (a : Int) (b : List Int) : List Int × Bool := if K.inR m.length a b.length = true then (K.wr m a b, true) else (m, false)
/-- a guest's bare machine -/
def K.bareG (g : PGuest) : PMach := ⟨⟨g.regs.set 0 0, g.pc, K.reset⟩, (K.writeAt (List.replicate g.part.size.toNat 0) 0 g.mem).1, 0, [], false⟩
/-- a step without an event; with one -/
def K.plOk (m : PMach) : Bool := !((K.cur m).2.cause == 0) || !K.reads (K.cur m).1
def K.evOk (m : PMach) (e : PEvent) : Bool := if e.kind = 1 then K.due (K.timed m e.time) else if e.kind = 2 then ((K.cur (K.timed m e.time)).2.cause == 0 && ((K.cur (K.timed m e.time)).1.op == 21 && (K.cur (K.timed m e.time)).1.imm == 7)) else if e.kind = 3 then ((K.cur (K.timed m e.time)).2.cause == 0 && ((K.cur (K.timed m e.time)).1.op == 21 && (K.cur (K.timed m e.time)).1.imm == 8)) else false
def K.evRes (m : PMach) (e : PEvent) : PMach := if e.kind = 1 then (K.step (K.timed m e.time)).1 else (K.plain (K.timed m e.time)).1
/-- the state of a replay: the machine, what is left of the log -/
abbrev K.RS := PMach × List PEvent
def K.isEv (p : K.RS) (i : Int) : Bool := decide ((p.2.length : Int) > 0) && (p.2.getD 0 ⟨0, 0, 0⟩).at_ == i
def K.nxR (p : K.RS) (i : Int) : K.RS := if K.isEv p i = true then (K.evRes p.1 (p.2.getD 0 ⟨0, 0, 0⟩), p.2.drop 1) else ((K.plain p.1).1, p.2)
def K.goodR (p : K.RS) (i : Int) : Bool := !p.1.halted && (if K.isEv p i = true then K.evOk p.1 (p.2.getD 0 ⟨0, 0, 0⟩) else K.plOk p.1)
def K.repS (m : PMach) (log : List PEvent) : Nat → K.RS
  | 0 => (m, log)
  | i + 1 => K.nxR (K.repS m log i) (i : Int)
def K.repEnd (m : PMach) (log : List PEvent) : Nat → Nat → Nat
  | 0, i => i
  | f + 1, i => if K.goodR (K.repS m log i) (i : Int) = true then K.repEnd m log f (i + 1) else i
/-- how many steps succeed -/
def K.repN (m : PMach) (n : Int) (log : List PEvent) : Nat := K.repEnd m log n.toNat 0
def K.replay (m : PMach) (n : Int) (log : List PEvent) : PMach × Int × Bool := ((K.repS m log (K.repN m n log)).1, (K.repN m n log : Int), decide (n ≤ (K.repN m n log : Int)) && decide (((K.repS m log (K.repN m n log)).2.length : Int) = 0))
theorem repEnd_spec {m : PMach} {log : List PEvent} : ∀ (f i : Nat), (∀ j, i ≤ j → j < K.repEnd m log f i → K.goodR (K.repS m log j) (j : Int) = true) ∧ (K.repEnd m log f i = i + f ∨ K.goodR (K.repS m log (K.repEnd m log f i)) (K.repEnd m log f i : Int) = false) ∧ i ≤ K.repEnd m log f i ∧ K.repEnd m log f i ≤ i + f
  | 0, i => ⟨fun j h1 h2 => absurd h2 (by show ¬ j < i; omega), .inl rfl, Nat.le_refl _, Nat.le_refl _⟩
  | f + 1, i => by
    cases hg : K.goodR (K.repS m log i) (i : Int) with
    | true =>
      have e : K.repEnd m log (f + 1) i = K.repEnd m log f (i + 1) := by
        show (if K.goodR (K.repS m log i) (i : Int) = true then K.repEnd m log f (i + 1) else i) = _
        rw [if_pos hg]
      rw [e]
      obtain ⟨a, b, c, d⟩ := repEnd_spec (m := m) (log := log) f (i + 1)
      refine ⟨fun j h1 h2 => ?_, ?_, by omega, by omega⟩
      · by_cases hj : j = i
        · subst hj; exact hg
        · exact a j (by omega) h2
      · rcases b with b | b
        · exact .inl (by omega)
        · exact .inr b
    | false =>
      have e : K.repEnd m log (f + 1) i = i := by
        show (if K.goodR (K.repS m log i) (i : Int) = true then K.repEnd m log f (i + 1) else i) = _
        rw [if_neg (by rw [hg]; simp)]
      rw [e]
      exact ⟨fun j h1 h2 => by omega, .inr hg, Nat.le_refl _, by omega⟩
theorem repN_spec (m : PMach) (n : Int) (log : List PEvent) : (∀ j, j < K.repN m n log → K.goodR (K.repS m log j) (j : Int) = true) ∧ (K.repN m n log = n.toNat ∨ K.goodR (K.repS m log (K.repN m n log)) (K.repN m n log : Int) = false) ∧ K.repN m n log ≤ n.toNat := by
  obtain ⟨a, b, c, d⟩ := repEnd_spec (m := m) (log := log) n.toNat 0
  exact ⟨fun j hj => a j (Nat.zero_le _) hj, by rw [Nat.zero_add] at b; exact b, by rw [Nat.zero_add] at d; exact d⟩
theorem repN_eq {m : PMach} {n : Int} {log : List PEvent} {k : Nat} (h1 : ∀ j, j < k → K.goodR (K.repS m log j) (j : Int) = true) (h2 : k = n.toNat ∨ K.goodR (K.repS m log k) (k : Int) = false) (h3 : k ≤ n.toNat) : K.repN m n log = k := by
  obtain ⟨a, b, c⟩ := repN_spec m n log
  rcases Nat.lt_trichotomy (K.repN m n log) k with q | q | q
  · rcases b with b | b
    · omega
    · rw [h1 _ q] at b; cases b
  · exact q
  · rcases h2 with h2 | h2
    · omega
    · rw [a _ q] at h2; cases h2
theorem nxR_lens (p : K.RS) (i : Int) : (K.nxR p i).1.mem.length = p.1.mem.length ∧ (K.nxR p i).1.out.length ≤ p.1.out.length + 1 := by
  unfold K.nxR
  split
  · show (K.evRes p.1 _).mem.length = _ ∧ (K.evRes p.1 _).out.length ≤ _
    unfold K.evRes
    split
    · exact step_lens (K.timed p.1 _)
    · exact plain_lens (K.timed p.1 _)
  · exact plain_lens p.1
theorem repS_lens (m : PMach) (log : List PEvent) : ∀ i : Nat, (K.repS m log i).1.mem.length = m.mem.length ∧ (K.repS m log i).1.out.length ≤ m.out.length + i
  | 0 => ⟨rfl, Nat.le_refl _⟩
  | i + 1 => by
    obtain ⟨a, b⟩ := repS_lens m log i
    have h : (K.repS m log (i + 1)).1.mem.length = (K.repS m log i).1.mem.length ∧ (K.repS m log (i + 1)).1.out.length ≤ (K.repS m log i).1.out.length + 1 := nxR_lens (K.repS m log i) (i : Int)
    omega
/-- how many events are taken -/
def K.seenR (m : PMach) (log : List PEvent) : Nat → Nat
  | 0 => 0
  | i + 1 => if K.isEv (K.repS m log i) (i : Int) = true then K.seenR m log i + 1 else K.seenR m log i
theorem isEv_iff (p : K.RS) (i : Int) : K.isEv p i = true ↔ 0 < p.2.length ∧ (p.2.getD 0 ⟨0, 0, 0⟩).at_ = i := by
  unfold K.isEv
  simp only [Bool.and_eq_true, decide_eq_true_eq, beq_iff_eq]
  omega
theorem seenR_drop (m : PMach) (log : List PEvent) : ∀ i : Nat, (K.repS m log i).2 = log.drop (K.seenR m log i) ∧ K.seenR m log i ≤ log.length
  | 0 => ⟨rfl, Nat.zero_le _⟩
  | i + 1 => by
    obtain ⟨a, b⟩ := seenR_drop m log i
    show (K.nxR (K.repS m log i) (i : Int)).2 = log.drop (if K.isEv (K.repS m log i) (i : Int) = true then K.seenR m log i + 1 else K.seenR m log i) ∧ (if K.isEv (K.repS m log i) (i : Int) = true then K.seenR m log i + 1 else K.seenR m log i) ≤ log.length
    unfold K.nxR
    split
    · rename_i h
      have h1 := (isEv_iff _ _).1 h
      rw [a, List.length_drop] at h1
      refine ⟨?_, by omega⟩
      show (K.repS m log i).2.drop 1 = _
      rw [a, List.drop_drop]
    · exact ⟨a, b⟩
theorem isEv_seen (m : PMach) (log : List PEvent) (i : Nat) : K.isEv (K.repS m log i) (i : Int) = true ↔ K.seenR m log i < log.length ∧ (log.getD (K.seenR m log i) ⟨0, 0, 0⟩).at_ = (i : Int) := by
  rw [isEv_iff, (seenR_drop m log i).1, List.length_drop]
  have : (log.drop (K.seenR m log i)).getD 0 ⟨0, 0, 0⟩ = log.getD (K.seenR m log i) ⟨0, 0, 0⟩ := by
    simp [List.getD_eq_getElem?_getD, List.getElem?_drop]
  rw [this]
  constructor
  · rintro ⟨h1, h2⟩; exact ⟨by omega, h2⟩
  · rintro ⟨h1, h2⟩; exact ⟨by omega, h2⟩
theorem seenR_mono (m : PMach) (log : List PEvent) {i : Nat} : ∀ {j : Nat}, i ≤ j → K.seenR m log i ≤ K.seenR m log j
  | 0, h => by rw [Nat.le_zero.1 h]; exact Nat.le_refl _
  | j + 1, h => by
    by_cases hj : i = j + 1
    · subst hj; exact Nat.le_refl _
    · have h1 := seenR_mono m log (i := i) (j := j) (by omega)
      have h2 : K.seenR m log j ≤ K.seenR m log (j + 1) := by
        rw [show K.seenR m log (j + 1) = if K.isEv (K.repS m log j) (j : Int) = true then K.seenR m log j + 1 else K.seenR m log j from rfl]
        split <;> omega
      omega
theorem seenR_at (m : PMach) (log : List PEvent) : ∀ (i j : Nat), j < K.seenR m log i → ∃ i' : Nat, i' < i ∧ (log.getD j ⟨0, 0, 0⟩).at_ = (i' : Int) ∧ K.seenR m log i' = j ∧ K.seenR m log (i' + 1) = j + 1
  | 0, j, h => absurd h (Nat.not_lt_zero _)
  | i + 1, j, h => by
    have e : K.seenR m log (i + 1) = if K.isEv (K.repS m log i) (i : Int) = true then K.seenR m log i + 1 else K.seenR m log i := rfl
    by_cases hj : j < K.seenR m log i
    · obtain ⟨i', h1, h2⟩ := seenR_at m log i j hj
      exact ⟨i', by omega, h2⟩
    · rw [e] at h
      split at h
      · rename_i hq
        have hjj : K.seenR m log i = j := by omega
        obtain ⟨h1, h2⟩ := (isEv_seen m log i).1 hq
        refine ⟨i, by omega, by rw [← hjj]; exact h2, hjj, ?_⟩
        rw [e, if_pos hq, hjj]
      · omega
/-- a whole replay's events -/
theorem seenR_cut {m : PMach} {log : List PEvent} {n k : Nat} (hk : k ≤ n) (hall : K.seenR m log n = log.length) : (∀ j, j < K.seenR m log k → (log.getD j ⟨0, 0, 0⟩).at_ < (k : Int)) ∧ (K.seenR m log k < log.length → (k : Int) ≤ (log.getD (K.seenR m log k) ⟨0, 0, 0⟩).at_) := by
  refine ⟨fun j hj => ?_, fun h => ?_⟩
  · obtain ⟨i', h1, h2, _⟩ := seenR_at m log k j hj
    rw [h2]; omega
  · obtain ⟨i', h1, h2, h3, h4⟩ := seenR_at m log n (K.seenR m log k) (by omega)
    rw [h2]
    rcases Nat.lt_or_ge i' k with q | q
    · have := seenR_mono m log (i := i' + 1) (j := k) (by omega)
      omega
    · omega
/-- a prefix of the steps with the events before it -/
theorem repS_cut {m : PMach} {log : List PEvent} {k : Nat} : ∀ {i : Nat}, i ≤ k → (K.repS m (log.take (K.seenR m log k)) i).1 = (K.repS m log i).1 ∧ K.seenR m (log.take (K.seenR m log k)) i = K.seenR m log i
  | 0, _ => ⟨rfl, rfl⟩
  | i + 1, h => by
    obtain ⟨a, b⟩ := repS_cut (m := m) (log := log) (k := k) (i := i) (by omega)
    have hle := (seenR_drop m log k).2
    have hlen : (log.take (K.seenR m log k)).length = K.seenR m log k := by rw [List.length_take]; omega
    have hiff : K.isEv (K.repS m (log.take (K.seenR m log k)) i) (i : Int) = true ↔ K.isEv (K.repS m log i) (i : Int) = true := by
      rw [isEv_seen, isEv_seen, b, hlen]
      constructor
      · rintro ⟨h1, h2⟩
        refine ⟨by omega, ?_⟩
        rw [← h2, List.getD_eq_getElem?_getD, List.getD_eq_getElem?_getD, List.getElem?_take_of_lt h1]
      · rintro ⟨h1, h2⟩
        have h3 : K.seenR m log (i + 1) = K.seenR m log i + 1 := by
          rw [show K.seenR m log (i + 1) = if K.isEv (K.repS m log i) (i : Int) = true then K.seenR m log i + 1 else K.seenR m log i from rfl]
          rw [if_pos ((isEv_seen m log i).2 ⟨h1, h2⟩)]
        have h4 := seenR_mono m log (i := i + 1) (j := k) h
        refine ⟨by omega, ?_⟩
        rw [← h2, List.getD_eq_getElem?_getD, List.getD_eq_getElem?_getD, List.getElem?_take_of_lt (by omega)]
    have hget : K.isEv (K.repS m log i) (i : Int) = true → (K.repS m (log.take (K.seenR m log k)) i).2.getD 0 ⟨0, 0, 0⟩ = (K.repS m log i).2.getD 0 ⟨0, 0, 0⟩ := fun hq => by
      obtain ⟨h1, _⟩ := (isEv_seen _ _ _).1 (hiff.2 hq)
      rw [(seenR_drop m log i).1, (seenR_drop m (log.take (K.seenR m log k)) i).1, b]
      rw [b, hlen] at h1
      simp only [List.getD_eq_getElem?_getD, List.getElem?_drop, Nat.add_zero]
      rw [List.getElem?_take_of_lt h1]
    show (K.nxR (K.repS m (log.take (K.seenR m log k)) i) (i : Int)).1 = (K.nxR (K.repS m log i) (i : Int)).1 ∧ (if K.isEv (K.repS m (log.take (K.seenR m log k)) i) (i : Int) = true then _ else _) = (if K.isEv (K.repS m log i) (i : Int) = true then _ else _)
    unfold K.nxR
    by_cases hq : K.isEv (K.repS m log i) (i : Int) = true
    · rw [if_pos hq, if_pos hq, if_pos (hiff.2 hq), if_pos (hiff.2 hq)]
      exact ⟨by show K.evRes _ _ = K.evRes _ _; rw [a, hget hq], by rw [b]⟩
    · rw [if_neg hq, if_neg hq, if_neg (fun h => hq (hiff.1 h)), if_neg (fun h => hq (hiff.1 h))]
      exact ⟨by show (K.plain _).1 = (K.plain _).1; rw [a], b⟩
theorem goodR_cut {m : PMach} {log : List PEvent} {k i : Nat} (h : i < k) (hg : K.goodR (K.repS m log i) (i : Int) = true) : K.goodR (K.repS m (log.take (K.seenR m log k)) i) (i : Int) = true := by
  obtain ⟨a, b⟩ := repS_cut (m := m) (log := log) (k := k) (i := i) (by omega)
  obtain ⟨_, b2⟩ := repS_cut (m := m) (log := log) (k := k) (i := i + 1) h
  have hle := (seenR_drop m log k).2
  have hlen : (log.take (K.seenR m log k)).length = K.seenR m log k := by rw [List.length_take]; omega
  have hiff : K.isEv (K.repS m (log.take (K.seenR m log k)) i) (i : Int) = true ↔ K.isEv (K.repS m log i) (i : Int) = true := by
    have e1 : K.seenR m log (i + 1) = if K.isEv (K.repS m log i) (i : Int) = true then K.seenR m log i + 1 else K.seenR m log i := rfl
    have e2 : K.seenR m (log.take (K.seenR m log k)) (i + 1) = if K.isEv (K.repS m (log.take (K.seenR m log k)) i) (i : Int) = true then K.seenR m (log.take (K.seenR m log k)) i + 1 else K.seenR m (log.take (K.seenR m log k)) i := rfl
    rw [e1, e2, b] at b2
    constructor
    · intro q; rw [if_pos q] at b2
      by_cases q2 : K.isEv (K.repS m log i) (i : Int) = true
      · exact q2
      · rw [if_neg q2] at b2; omega
    · intro q; rw [if_pos q] at b2
      by_cases q2 : K.isEv (K.repS m (log.take (K.seenR m log k)) i) (i : Int) = true
      · exact q2
      · rw [if_neg q2] at b2; omega
  have hget : K.isEv (K.repS m log i) (i : Int) = true → (K.repS m (log.take (K.seenR m log k)) i).2.getD 0 ⟨0, 0, 0⟩ = (K.repS m log i).2.getD 0 ⟨0, 0, 0⟩ := fun hq => by
    obtain ⟨h1, _⟩ := (isEv_seen _ _ _).1 (hiff.2 hq)
    rw [(seenR_drop m log i).1, (seenR_drop m (log.take (K.seenR m log k)) i).1, b]
    rw [b, hlen] at h1
    simp only [List.getD_eq_getElem?_getD, List.getElem?_drop, Nat.add_zero]
    rw [List.getElem?_take_of_lt h1]
  unfold K.goodR at hg ⊢
  rw [a]
  by_cases hq : K.isEv (K.repS m log i) (i : Int) = true
  · rw [if_pos hq] at hg
    rw [if_pos (hiff.2 hq), hget hq]; exact hg
  · rw [if_neg hq] at hg
    rw [if_neg (fun h => hq (hiff.1 h))]; exact hg
/-- replays, as the laws speak of them -/
theorem replay_bounds (m : PMach) {n : Int} (log : List PEvent) (hn : 0 ≤ n) : 0 ≤ (K.replay m n log).2.1 ∧ (K.replay m n log).2.1 ≤ n ∧ ((K.replay m n log).2.2 = true → (K.replay m n log).2.1 = n) := by
  obtain ⟨a, b, c⟩ := repN_spec m n log
  unfold K.replay
  refine ⟨by simp, by simp only; omega, fun h => ?_⟩
  simp only [Bool.and_eq_true, decide_eq_true_eq] at h
  simp only; omega
theorem replay_fails {m : PMach} {n : Int} {log : List PEvent} (h : (K.replay m n log).2.1 < n) : K.replay m ((K.replay m n log).2.1 + 1) log = ((K.replay m n log).1, (K.replay m n log).2.1, false) := by
  obtain ⟨a, b, c⟩ := repN_spec m n log
  have hi : (K.replay m n log).2.1 = (K.repN m n log : Int) := rfl
  rw [hi] at h ⊢
  have hb : K.goodR (K.repS m log (K.repN m n log)) (K.repN m n log : Int) = false := by
    rcases b with b | b
    · omega
    · exact b
  have e : K.repN m ((K.repN m n log : Int) + 1) log = K.repN m n log := repN_eq a (.inr hb) (by omega)
  unfold K.replay
  rw [e]
  simp only [Prod.mk.injEq, true_and, Bool.and_eq_false_iff, decide_eq_false_iff_not]
  exact .inl (by omega)
theorem replay_prefix {m : PMach} {n : Int} {log : List PEvent} (hok : (K.replay m n log).2.2 = true) {k : Nat} (hk : (k : Int) ≤ n) : (K.replay m k (log.take (K.seenR m log k))).2 = ((k : Int), true) ∧ (∀ j, j < K.seenR m log k → (log.getD j ⟨0, 0, 0⟩).at_ < (k : Int)) ∧ (K.seenR m log k < log.length → (k : Int) ≤ (log.getD (K.seenR m log k) ⟨0, 0, 0⟩).at_) := by
  obtain ⟨a, b, c⟩ := repN_spec m n log
  unfold K.replay at hok
  simp only [Bool.and_eq_true, decide_eq_true_eq] at hok
  have hN : K.repN m n log = n.toNat := by omega
  have hall : K.seenR m log n.toNat = log.length := by
    have h1 := seenR_drop m log n.toNat
    have h2 := hok.2
    rw [hN, h1.1, List.length_drop] at h2
    have := h1.2
    omega
  have e : K.repN m (k : Int) (log.take (K.seenR m log k)) = k := repN_eq (fun j hj => goodR_cut hj (a j (by omega))) (.inl (by omega)) (by omega)
  refine ⟨?_, seenR_cut (by omega) hall⟩
  unfold K.replay
  rw [e]
  have h1 := seenR_drop m (log.take (K.seenR m log k)) k
  have h2 := (repS_cut (m := m) (log := log) (k := k) (i := k) (Nat.le_refl _)).2
  have hle := (seenR_drop m log k).2
  simp only [Prod.mk.injEq, true_and, Bool.and_eq_true, decide_eq_true_eq]
  refine ⟨Int.le_refl _, ?_⟩
  rw [h1.1, h2, List.length_drop, List.length_take]
  omega
/-- steps without events -/
def K.plI (m : PMach) : Nat → PMach
  | 0 => m
  | i + 1 => (K.plain (K.plI m i)).1
theorem repS_nil (m : PMach) : ∀ i : Nat, K.repS m [] i = (K.plI m i, [])
  | 0 => rfl
  | i + 1 => by
    show K.nxR (K.repS m [] i) (i : Int) = _
    rw [repS_nil m i]
    rfl
theorem replay_nil (m : PMach) (n : Int) (hn : 0 ≤ n) : (K.replay m n []).1 = K.plI m (K.repN m n []) ∧ ((K.replay m n []).2.2 = true ↔ K.repN m n [] = n.toNat) := by
  obtain ⟨a, b, c⟩ := repN_spec m n []
  unfold K.replay
  rw [repS_nil]
  refine ⟨rfl, ?_⟩
  simp only [Bool.and_eq_true, decide_eq_true_eq, List.length_nil]
  omega
theorem goodR_nil (m : PMach) (i : Int) : K.goodR (m, []) i = (!m.halted && K.plOk m) := rfl
theorem writeAt_len (m : List Int) {a : Int} (b : List Int) (h : 0 ≤ a) : (K.writeAt m a b).1.length = m.length := by
  unfold K.writeAt
  split
  · rename_i q
    have q : a + b.length ≤ (m.length : Int) := by simpa [K.inR] using q
    show (K.wr m a b).length = _
    unfold K.wr
    simp only [List.length_append, List.length_take, List.length_drop]
    omega
  · rfl
theorem bareG_lens (g : PGuest) : (K.bareG g).mem.length = g.part.size.toNat ∧ (K.bareG g).out.length = 0 := by
  refine ⟨?_, rfl⟩
  show (K.writeAt _ _ _).1.length = _
  rw [writeAt_len _ _ (Int.le_refl 0), List.length_replicate]
theorem replay_end {m : PMach} {n : Int} {log : List PEvent} {i : Nat} (h : K.repEnd m log (n.toNat - i) i = K.repN m n log) (hi : i ≤ n.toNat) (hx : ¬ (i : Int) < n) : K.replay m n log = ((K.repS m log i).1, (i : Int), decide (((K.repS m log i).2.length : Int) = 0)) := by
  rw [show n.toNat - i = 0 by omega] at h
  have h : i = K.repN m n log := h
  unfold K.replay
  rw [← h, decide_eq_true (show n ≤ (i : Int) by omega), Bool.true_and]
theorem replay_bad {m : PMach} {n : Int} {log : List PEvent} {i : Nat} (h : K.repEnd m log (n.toNat - i) i = K.repN m n log) (hx : (i : Int) < n) (hb : K.goodR (K.repS m log i) (i : Int) = false) : K.replay m n log = ((K.repS m log i).1, (i : Int), false) := by
  rw [show n.toNat - i = (n.toNat - (i + 1)) + 1 by omega] at h
  have h : (if K.goodR (K.repS m log i) (i : Int) = true then K.repEnd m log (n.toNat - (i + 1)) (i + 1) else i) = K.repN m n log := h
  rw [if_neg (by rw [hb]; simp)] at h
  unfold K.replay
  rw [← h, decide_eq_false (show ¬ n ≤ (i : Int) by omega), Bool.false_and]
theorem replay_next {m : PMach} {n : Int} {log : List PEvent} {i : Nat} (h : K.repEnd m log (n.toNat - i) i = K.repN m n log) (hx : (i : Int) < n) (hb : K.goodR (K.repS m log i) (i : Int) = true) : K.repEnd m log (n.toNat - (i + 1)) (i + 1) = K.repN m n log := by
  rw [show n.toNat - i = (n.toNat - (i + 1)) + 1 by omega] at h
  have h : (if K.goodR (K.repS m log i) (i : Int) = true then K.repEnd m log (n.toNat - (i + 1)) (i + 1) else i) = K.repN m n log := h
  rwa [if_pos hb] at h




/-! Kconf -/
structure okConf (c : PConf) : Prop where
  size : okI .u32 c.size
  len : c.guests.length ≤ lim
  guest : ∀ g, g ∈ c.guests → okGuest g
theorem okGuest_of {n : Nat} {g : PGuest} (h : okC (n + 2) (guestC g)) : okGuest g :=
  ⟨⟨h (svI .u32 g.part.base) (by simp [guestC]), h (svI .u32 g.part.size) (by simp [guestC])⟩, okBytes_of (n := n) (h (.rd .u8 g.mem) (by simp [guestC])), h (.arr .u32 16 g.regs) (by simp [guestC]), h (svI .u32 g.pc) (by simp [guestC])⟩
theorem ok_conf {c : PConf} (h : okS (encA .conf c)) : okConf c :=
  have h : okC 4 (confC c) := h
  have h2 : okCell (okC 3) (.rd .guest c.guests) := h (.rd .guest c.guests) (by simp [confC])
  ⟨h (svI .u32 c.size) (by simp [confC]), h2.1, fun g hg => okGuest_of (n := 1) (h2.2 g hg)⟩
theorem okConf.at {c : PConf} (ok : okConf c) {i : Nat} (h : i < c.guests.length) : okGuest (c.guests.getD i ⟨⟨0, 0⟩, [], [], 0⟩) := by
  rw [show c.guests.getD i ⟨⟨0, 0⟩, [], [], 0⟩ = c.guests[i] by simp [h]]
  exact ok.guest _ (List.getElem_mem h)
abbrev K.dG : PGuest := ⟨⟨0, 0⟩, [], [], 0⟩
def K.inP (p : PPart) (a : Int) : Bool := decide (a ≥ p.base) && decide (a < p.base + p.size)
def K.whoseL (a : Int) : List PGuest → Int → Int
  | [], _ => -1
  | g :: r, i => if K.inP g.part a = true then i else K.whoseL a r (i + 1)
def K.whose (c : PConf) (a f : Int) : Int := K.whoseL a (c.guests.drop f.toNat) f
theorem whoseL_drop (c : PConf) (a k : Int) {i : Nat} (h : i < c.guests.length) : K.whoseL a (c.guests.drop i) k = if K.inP (c.guests.getD i ⟨⟨0, 0⟩, [], [], 0⟩).part a = true then k else K.whoseL a (c.guests.drop (i + 1)) (k + 1) := by
  rw [List.drop_eq_getElem_cons h, show c.guests.getD i ⟨⟨0, 0⟩, [], [], 0⟩ = c.guests[i] by simp [h]]
  rfl
theorem whoseL_end (c : PConf) (a k : Int) {i : Nat} (h : c.guests.length ≤ i) : K.whoseL a (c.guests.drop i) k = -1 := by
  rw [List.drop_of_length_le h]; rfl
theorem whoseL_bound (a : Int) : ∀ (l : List PGuest) (k : Int), K.whoseL a l k = -1 ∨ (k ≤ K.whoseL a l k ∧ K.whoseL a l k < k + l.length)
  | [], k => .inl rfl
  | g :: r, k => by
    unfold K.whoseL
    split
    · exact .inr ⟨Int.le_refl _, by simp; omega⟩
    · rcases whoseL_bound a r (k + 1) with h | ⟨h1, h2⟩
      · exact .inl h
      · exact .inr ⟨by omega, by simp; omega⟩
theorem whose_bound (c : PConf) (a : Int) {f : Int} (hf : 0 ≤ f) : K.whose c a f = -1 ∨ (f ≤ K.whose c a f ∧ K.whose c a f < c.guests.length) := by
  rcases whoseL_bound a (c.guests.drop f.toNat) f with h | ⟨h1, h2⟩
  · exact .inl h
  · rw [List.length_drop] at h2
    exact .inr ⟨h1, by unfold K.whose; omega⟩
def K.fewC (c : PConf) : Bool := decide (c.size ≤ 600) && (decide (c.guests.length ≤ 20) && c.guests.all fun g => decide (g.mem.length ≤ 600))
def K.partOk (size : Int) (g : PGuest) : Bool := decide (g.part.base % 4 = 0) && (decide (g.part.size % 4 = 0) && (decide (g.part.size ≠ 0) && (decide (g.part.base + g.part.size ≤ size) && decide ((g.mem.length : Int) ≤ g.part.size))))
def K.overAt (c : PConf) (a : Int) : Bool := decide (K.whose c a 0 ≥ 0) && decide (K.whose c a (K.whose c a 0 + 1) ≥ 0)
def K.overFrom (c : PConf) : Nat → Int → Bool
  | 0, _ => false
  | f + 1, a => K.overAt c a || K.overFrom c f (a + 4)
/-- the first fault of a configuration -/
def K.mayC (c : PConf) : Int := if c.guests.length < 1 ∨ c.guests.length > 16 then 7 else if c.size % 4 ≠ 0 ∨ c.size > 65536 then 1 else if (c.guests.all (K.partOk c.size)) = false then 5 else if K.overFrom c (c.size.toNat / 4) 0 = true then 6 else 0
theorem all_take {α : Type} {p : α → Bool} {l : List α} {i : Nat} (h : i < l.length) (d : α) : (l.take (i + 1)).all p = ((l.take i).all p && p (l.getD i d)) := by
  rw [List.take_succ_eq_append_getElem h, List.all_append, show l.getD i d = l[i] by simp [h]]
  simp
theorem all_bad {α : Type} {p : α → Bool} {l : List α} {i : Nat} (h : i < l.length) {d : α} (hb : p (l.getD i d) = false) : l.all p = false := by
  rw [show l.getD i d = l[i] by simp [h]] at hb
  cases hq : l.all p with
  | false => rfl
  | true => rw [List.all_eq_true.1 hq _ (List.getElem_mem h)] at hb; cases hb
/-! logs in order -/
def K.ordFrom (last : PEvent) : List PEvent → Bool
  | [] => true
  | e :: r => !(decide (e.at_ ≤ last.at_) || decide (e.time < last.time)) && K.ordFrom e r
def K.ordL (log : List PEvent) : Bool := K.ordFrom ⟨0, -1, 0⟩ log
def K.lastE (log : List PEvent) : Nat → PEvent
  | 0 => ⟨0, -1, 0⟩
  | j + 1 => log.getD j ⟨0, 0, 0⟩
theorem ordFrom_drop {log : List PEvent} {j : Nat} (last : PEvent) (h : j < log.length) : K.ordFrom last (log.drop j) = (!(decide ((log.getD j ⟨0, 0, 0⟩).at_ ≤ last.at_) || decide ((log.getD j ⟨0, 0, 0⟩).time < last.time)) && K.ordFrom (log.getD j ⟨0, 0, 0⟩) (log.drop (j + 1))) := by
  rw [List.drop_eq_getElem_cons h, show log.getD j ⟨0, 0, 0⟩ = log[j] by simp [h]]
  rfl
theorem ordFrom_end {log : List PEvent} {j : Nat} (last : PEvent) (h : log.length ≤ j) : K.ordFrom last (log.drop j) = true := by
  rw [List.drop_of_length_le h]; rfl
/-! the laws' domain -/
def K.few26 (g : PGuest) (n : Int) (log : List PEvent) : Bool := K.fewC ⟨600, [g]⟩ && (decide (K.mayC ⟨600, [g]⟩ = 0) && (decide (n ≥ 0) && (decide (n ≤ 100) && decide ((log.length : Int) ≤ 100))))
theorem few26_facts {g : PGuest} {n : Int} {log : List PEvent} (h : K.few26 g n log = true) : g.mem.length ≤ 600 ∧ (g.mem.length : Int) ≤ g.part.size ∧ 0 ≤ n ∧ n ≤ 100 ∧ log.length ≤ 100 := by
  unfold K.few26 at h
  simp only [Bool.and_eq_true, decide_eq_true_eq] at h
  obtain ⟨h1, h2, h3, h4, h5⟩ := h
  unfold K.fewC at h1
  simp only [Bool.and_eq_true, decide_eq_true_eq, List.all_cons, List.all_nil, and_true] at h1
  unfold K.mayC at h2
  split at h2
  · cases h2
  · split at h2
    · cases h2
    · split at h2
      · cases h2
      · rename_i q
        simp only [List.all_cons, List.all_nil, Bool.and_true, Bool.not_eq_false] at q
        unfold K.partOk at q
        simp only [Bool.and_eq_true, decide_eq_true_eq] at q
        exact ⟨h1.2.2, q.2.2.2.2, h3, h4, by omega⟩
/-- one step of the reference -/
def K.oneR (m : PMach) (e : PEvent) (has : Bool) : PMach × Bool := if m.halted = true then (m, false) else if has = true then (K.evRes m e, K.evOk m e) else ((K.plain m).1, K.plOk m)
def K.fillG (g : PGuest) (i : Nat) : List Int := g.mem.take i ++ List.replicate (g.part.size.toNat - i) 0
theorem fillG_next {g : PGuest} {i : Nat} (h : i < g.mem.length) (hs : (g.mem.length : Int) ≤ g.part.size) : (K.fillG g i).set i (g.mem.getD i 0) = K.fillG g (i + 1) := by
  unfold K.fillG
  rw [List.take_succ_eq_append_getElem h, show g.part.size.toNat - i = (g.part.size.toNat - (i + 1)) + 1 by omega, List.replicate_succ, List.append_assoc]
  rw [List.set_append_right _ _ (by simp; omega)]
  congr 1
  rw [List.length_take, show i - min i g.mem.length = 0 by omega]
  simp [h]
theorem fillG_end {g : PGuest} (hs : (g.mem.length : Int) ≤ g.part.size) : K.fillG g g.mem.length = (K.bareG g).mem := by
  show _ = (K.writeAt _ _ _).1
  unfold K.writeAt K.fillG
  rw [if_pos (by simp [K.inR]; omega)]
  show _ = K.wr _ _ _
  unfold K.wr
  rw [List.take_length]
  simp
/-! replays without events -/
def K.goodN (m : PMach) (i : Nat) : Bool := !(K.plI m i).halted && K.plOk (K.plI m i)
theorem goodN_eq (m : PMach) (i : Nat) : K.goodR (K.repS m [] i) (i : Int) = K.goodN m i := by
  rw [repS_nil]; rfl
theorem replay_nil_bad {m : PMach} {n : Int} {i : Nat} (hi : (i : Int) < n) (h1 : ∀ j, j < i → K.goodN m j = true) (h2 : K.goodN m i = false) : K.replay m n [] = (K.plI m i, (i : Int), false) := by
  have e : K.repN m n [] = i := repN_eq (fun j hj => by rw [goodN_eq]; exact h1 j hj) (.inr (by rw [goodN_eq]; exact h2)) (by omega)
  unfold K.replay
  rw [e, repS_nil, decide_eq_false (show ¬ n ≤ (i : Int) by omega), Bool.false_and]
theorem replay_nil_all {m : PMach} {n : Int} (hn : 0 ≤ n) (h1 : ∀ j, j < n.toNat → K.goodN m j = true) : K.replay m n [] = (K.plI m n.toNat, n, true) := by
  have e : K.repN m n [] = n.toNat := repN_eq (fun j hj => by rw [goodN_eq]; exact h1 j hj) (.inl rfl) (Nat.le_refl _)
  unfold K.replay
  rw [e, repS_nil]
  exact Prod.ext rfl (Prod.ext (by show ((n.toNat : Nat) : Int) = n; omega) (by show (decide (n ≤ ((n.toNat : Nat) : Int)) && decide ((([] : List PEvent).length : Int) = 0)) = true; rw [decide_eq_true (show n ≤ ((n.toNat : Nat) : Int) by omega)]; rfl))
theorem plI_lens (m : PMach) : ∀ i : Nat, (K.plI m i).mem.length = m.mem.length ∧ (K.plI m i).out.length ≤ m.out.length + i
  | 0 => ⟨rfl, Nat.le_refl _⟩
  | i + 1 => by
    obtain ⟨a, b⟩ := plI_lens m i
    have := plain_lens (K.plI m i)
    have h : (K.plI m (i + 1)).mem.length = (K.plI m i).mem.length ∧ (K.plI m (i + 1)).out.length ≤ (K.plI m i).out.length + 1 := this
    omega
theorem replay_ok_nil {m : PMach} {n : Int} (hn : 0 ≤ n) (h : (K.replay m n []).2.2 = true) : (K.replay m n []).1 = K.plI m n.toNat := by
  obtain ⟨a, b⟩ := replay_nil m n hn
  rw [a, b.1 h]




/-! base -/
def ety : TypeId → Option ETy
| 5 => some .u8
| 4 => some .bool
| 3 => some .i64
| 22 => some .u32
| 9 => some .str
| 51 => some .event
| 54 => some .trap
| 59 => some .instr
| 45 => some .guest
  | _ => none
def globs (g : Nat) : Option (List SV) := none
noncomputable def EB : Env := { P := Tryz.prog, ety := ety, glob := globs, spec := fun _ => none, callee := fun f => Nat.ble 3 f && Nat.ble f 159 }
def gl_0 : List SV := [.b false, .b false, .b false, .b false, .b false, .b true, .b true, .b true, .b false, .b false, .b true, .b true, .b false, .b true, .b false, .b true, .b false, .b false, .b true, .b false, .b false, .b false, .b false, .b false, .b false, .b true, .b false, .b false, .b false, .b true, .b false, .b true, .b false, .b false, .b true, .b false, .b true, .b false, .b false, .b false]
def gl_1 : List SV := [.arr .i64 26 [0, 1, 1, 1, 1, 1, 1, 1, 1, 2, 3, 2, 2, 2, 2, 2, 2, 2, 3, 2, 4, 5, 6, 4, 4, 7]]
def gl_2 : List SV := [.v (.int .i64 0), .v (.int .u32 0)]
def globs_1 (g : Nat) : Option (List SV) := bif Nat.beq g 1 then some gl_1 else none
noncomputable def EB_1 : Env := { P := Tryz.prog, ety := ety, glob := globs_1, spec := fun _ => none, callee := fun f => Nat.ble 3 f && Nat.ble f 159 }
def globs_2 (g : Nat) : Option (List SV) := bif Nat.beq g 2 then some gl_2 else none
noncomputable def EB_2 : Env := { P := Tryz.prog, ety := ety, glob := globs_2, spec := fun _ => none, callee := fun f => Nat.ble 3 f && Nat.ble f 159 }
def globs_0_1 (g : Nat) : Option (List SV) := bif Nat.beq g 0 then some gl_0 else bif Nat.beq g 1 then some gl_1 else none
noncomputable def EB_0_1 : Env := { P := Tryz.prog, ety := ety, glob := globs_0_1, spec := fun _ => none, callee := fun f => Nat.ble 3 f && Nat.ble f 159 }
def globs_1_2 (g : Nat) : Option (List SV) := bif Nat.beq g 1 then some gl_1 else bif Nat.beq g 2 then some gl_2 else none
noncomputable def EB_1_2 : Env := { P := Tryz.prog, ety := ety, glob := globs_1_2, spec := fun _ => none, callee := fun f => Nat.ble 3 f && Nat.ble f 159 }
def globs_0_1_2 (g : Nat) : Option (List SV) := bif Nat.beq g 0 then some gl_0 else bif Nat.beq g 1 then some gl_1 else bif Nat.beq g 2 then some gl_2 else none
noncomputable def EB_0_1_2 : Env := { P := Tryz.prog, ety := ety, glob := globs_0_1_2, spec := fun _ => none, callee := fun f => Nat.ble 3 f && Nat.ble f 159 }

theorem okEB : EnvOk EB := ⟨by kernel_rfl, (fun f S h => by cases h), callees_of (P := Tryz.prog) (by kernel_rfl)⟩
theorem okEB_1 : EnvOk EB_1 := ⟨okEB.mixed, (fun f S h => by cases h), okEB.callee⟩
theorem okEB_2 : EnvOk EB_2 := ⟨okEB.mixed, (fun f S h => by cases h), okEB.callee⟩
theorem okEB_0_1 : EnvOk EB_0_1 := ⟨okEB.mixed, (fun f S h => by cases h), okEB.callee⟩
theorem okEB_1_2 : EnvOk EB_1_2 := ⟨okEB.mixed, (fun f S h => by cases h), okEB.callee⟩
theorem okEB_0_1_2 : EnvOk EB_0_1_2 := ⟨okEB.mixed, (fun f S h => by cases h), okEB.callee⟩
theorem up_to_1 {f : FuncId} {S : Spec} (h : SpecOk EB f S) : SpecOk EB_1 f S := SpecOk.globs (B := EB) (C := EB_1) rfl (fun g cs e => by
  cases e) h
theorem up_to_2 {f : FuncId} {S : Spec} (h : SpecOk EB f S) : SpecOk EB_2 f S := SpecOk.globs (B := EB) (C := EB_2) rfl (fun g cs e => by
  cases e) h
theorem up_to_0_1 {f : FuncId} {S : Spec} (h : SpecOk EB f S) : SpecOk EB_0_1 f S := SpecOk.globs (B := EB) (C := EB_0_1) rfl (fun g cs e => by
  cases e) h
theorem up_to_1_2 {f : FuncId} {S : Spec} (h : SpecOk EB f S) : SpecOk EB_1_2 f S := SpecOk.globs (B := EB) (C := EB_1_2) rfl (fun g cs e => by
  cases e) h
theorem up_to_0_1_2 {f : FuncId} {S : Spec} (h : SpecOk EB f S) : SpecOk EB_0_1_2 f S := SpecOk.globs (B := EB) (C := EB_0_1_2) rfl (fun g cs e => by
  cases e) h
theorem up_1_to_0_1 {f : FuncId} {S : Spec} (h : SpecOk EB_1 f S) : SpecOk EB_0_1 f S := SpecOk.globs (B := EB_1) (C := EB_0_1) rfl (fun g cs e => by
  have e : globs_1 g = some cs := e
  show globs_0_1 g = some cs
  unfold globs_1 at e
  cases hb : Nat.beq g 1 with
  | true => rw [hb] at e; cases e; rw [Nat.eq_of_beq_eq_true hb]; rfl
  | false =>
  rw [hb] at e; simp only [cond_false] at e; clear hb
  cases e) h
theorem up_1_to_1_2 {f : FuncId} {S : Spec} (h : SpecOk EB_1 f S) : SpecOk EB_1_2 f S := SpecOk.globs (B := EB_1) (C := EB_1_2) rfl (fun g cs e => by
  have e : globs_1 g = some cs := e
  show globs_1_2 g = some cs
  unfold globs_1 at e
  cases hb : Nat.beq g 1 with
  | true => rw [hb] at e; cases e; rw [Nat.eq_of_beq_eq_true hb]; rfl
  | false =>
  rw [hb] at e; simp only [cond_false] at e; clear hb
  cases e) h
theorem up_1_to_0_1_2 {f : FuncId} {S : Spec} (h : SpecOk EB_1 f S) : SpecOk EB_0_1_2 f S := SpecOk.globs (B := EB_1) (C := EB_0_1_2) rfl (fun g cs e => by
  have e : globs_1 g = some cs := e
  show globs_0_1_2 g = some cs
  unfold globs_1 at e
  cases hb : Nat.beq g 1 with
  | true => rw [hb] at e; cases e; rw [Nat.eq_of_beq_eq_true hb]; rfl
  | false =>
  rw [hb] at e; simp only [cond_false] at e; clear hb
  cases e) h
theorem up_2_to_1_2 {f : FuncId} {S : Spec} (h : SpecOk EB_2 f S) : SpecOk EB_1_2 f S := SpecOk.globs (B := EB_2) (C := EB_1_2) rfl (fun g cs e => by
  have e : globs_2 g = some cs := e
  show globs_1_2 g = some cs
  unfold globs_2 at e
  cases hb : Nat.beq g 2 with
  | true => rw [hb] at e; cases e; rw [Nat.eq_of_beq_eq_true hb]; rfl
  | false =>
  rw [hb] at e; simp only [cond_false] at e; clear hb
  cases e) h
theorem up_2_to_0_1_2 {f : FuncId} {S : Spec} (h : SpecOk EB_2 f S) : SpecOk EB_0_1_2 f S := SpecOk.globs (B := EB_2) (C := EB_0_1_2) rfl (fun g cs e => by
  have e : globs_2 g = some cs := e
  show globs_0_1_2 g = some cs
  unfold globs_2 at e
  cases hb : Nat.beq g 2 with
  | true => rw [hb] at e; cases e; rw [Nat.eq_of_beq_eq_true hb]; rfl
  | false =>
  rw [hb] at e; simp only [cond_false] at e; clear hb
  cases e) h
theorem up_0_1_to_0_1_2 {f : FuncId} {S : Spec} (h : SpecOk EB_0_1 f S) : SpecOk EB_0_1_2 f S := SpecOk.globs (B := EB_0_1) (C := EB_0_1_2) rfl (fun g cs e => by
  have e : globs_0_1 g = some cs := e
  show globs_0_1_2 g = some cs
  unfold globs_0_1 at e
  cases hb : Nat.beq g 0 with
  | true => rw [hb] at e; cases e; rw [Nat.eq_of_beq_eq_true hb]; rfl
  | false =>
  rw [hb] at e; simp only [cond_false] at e; clear hb
  cases hb : Nat.beq g 1 with
  | true => rw [hb] at e; cases e; rw [Nat.eq_of_beq_eq_true hb]; rfl
  | false =>
  rw [hb] at e; simp only [cond_false] at e; clear hb
  cases e) h
theorem up_1_2_to_0_1_2 {f : FuncId} {S : Spec} (h : SpecOk EB_1_2 f S) : SpecOk EB_0_1_2 f S := SpecOk.globs (B := EB_1_2) (C := EB_0_1_2) rfl (fun g cs e => by
  have e : globs_1_2 g = some cs := e
  show globs_0_1_2 g = some cs
  unfold globs_1_2 at e
  cases hb : Nat.beq g 1 with
  | true => rw [hb] at e; cases e; rw [Nat.eq_of_beq_eq_true hb]; rfl
  | false =>
  rw [hb] at e; simp only [cond_false] at e; clear hb
  cases hb : Nat.beq g 2 with
  | true => rw [hb] at e; cases e; rw [Nat.eq_of_beq_eq_true hb]; rfl
  | false =>
  rw [hb] at e; simp only [cond_false] at e; clear hb
  cases e) h

/-! ref02_May -/

def S_ref02_May : Spec := sig [.instr] [.b] (fun (i, _) => K.may i)
noncomputable def E_ref02_May : Env := EB.adds []

theorem ok_ref02_May : EnvOk E_ref02_May := okEB.adds (l := _) trivial
theorem t_c_ref02_May_0 (rd ra rb imm : Int) : evF E_ref02_May 60 55 [.agg (instrC ⟨0, rd, ra, rb, imm⟩)] = Tree.leaf (SV.b false) := by kernel_rfl
theorem t_c_ref02_May_1 (rd ra rb imm : Int) : evF E_ref02_May 60 55 [.agg (instrC ⟨1, rd, ra, rb, imm⟩)] = bif (decide (rd ≥ (0 : Int))) then (bif (decide (rd ≤ (15 : Int))) then (bif (decide (ra ≥ (0 : Int))) then (bif (decide (ra ≤ (15 : Int))) then (bif (decide (rb ≥ (0 : Int))) then (bif (decide (rb ≤ (15 : Int))) then (bif (BEq.beq imm (0 : Int)) then (Tree.leaf (SV.b true)) else (Tree.leaf (SV.b false))) else (Tree.leaf (SV.b false))) else (Tree.leaf (SV.b false))) else (Tree.leaf (SV.b false))) else (Tree.leaf (SV.b false))) else (Tree.leaf (SV.b false))) else (Tree.leaf (SV.b false)) := by kernel_rfl
theorem t_c_ref02_May_2 (rd ra rb imm : Int) : evF E_ref02_May 60 55 [.agg (instrC ⟨2, rd, ra, rb, imm⟩)] = bif (decide (rd ≥ (0 : Int))) then (bif (decide (rd ≤ (15 : Int))) then (bif (decide (ra ≥ (0 : Int))) then (bif (decide (ra ≤ (15 : Int))) then (bif (decide (rb ≥ (0 : Int))) then (bif (decide (rb ≤ (15 : Int))) then (bif (BEq.beq imm (0 : Int)) then (Tree.leaf (SV.b true)) else (Tree.leaf (SV.b false))) else (Tree.leaf (SV.b false))) else (Tree.leaf (SV.b false))) else (Tree.leaf (SV.b false))) else (Tree.leaf (SV.b false))) else (Tree.leaf (SV.b false))) else (Tree.leaf (SV.b false)) := by kernel_rfl
theorem t_c_ref02_May_3 (rd ra rb imm : Int) : evF E_ref02_May 60 55 [.agg (instrC ⟨3, rd, ra, rb, imm⟩)] = bif (decide (rd ≥ (0 : Int))) then (bif (decide (rd ≤ (15 : Int))) then (bif (decide (ra ≥ (0 : Int))) then (bif (decide (ra ≤ (15 : Int))) then (bif (decide (rb ≥ (0 : Int))) then (bif (decide (rb ≤ (15 : Int))) then (bif (BEq.beq imm (0 : Int)) then (Tree.leaf (SV.b true)) else (Tree.leaf (SV.b false))) else (Tree.leaf (SV.b false))) else (Tree.leaf (SV.b false))) else (Tree.leaf (SV.b false))) else (Tree.leaf (SV.b false))) else (Tree.leaf (SV.b false))) else (Tree.leaf (SV.b false)) := by kernel_rfl
theorem t_c_ref02_May_4 (rd ra rb imm : Int) : evF E_ref02_May 60 55 [.agg (instrC ⟨4, rd, ra, rb, imm⟩)] = bif (decide (rd ≥ (0 : Int))) then (bif (decide (rd ≤ (15 : Int))) then (bif (decide (ra ≥ (0 : Int))) then (bif (decide (ra ≤ (15 : Int))) then (bif (decide (rb ≥ (0 : Int))) then (bif (decide (rb ≤ (15 : Int))) then (bif (BEq.beq imm (0 : Int)) then (Tree.leaf (SV.b true)) else (Tree.leaf (SV.b false))) else (Tree.leaf (SV.b false))) else (Tree.leaf (SV.b false))) else (Tree.leaf (SV.b false))) else (Tree.leaf (SV.b false))) else (Tree.leaf (SV.b false))) else (Tree.leaf (SV.b false)) := by kernel_rfl
theorem t_c_ref02_May_5 (rd ra rb imm : Int) : evF E_ref02_May 60 55 [.agg (instrC ⟨5, rd, ra, rb, imm⟩)] = bif (decide (rd ≥ (0 : Int))) then (bif (decide (rd ≤ (15 : Int))) then (bif (decide (ra ≥ (0 : Int))) then (bif (decide (ra ≤ (15 : Int))) then (bif (decide (rb ≥ (0 : Int))) then (bif (decide (rb ≤ (15 : Int))) then (bif (BEq.beq imm (0 : Int)) then (Tree.leaf (SV.b true)) else (Tree.leaf (SV.b false))) else (Tree.leaf (SV.b false))) else (Tree.leaf (SV.b false))) else (Tree.leaf (SV.b false))) else (Tree.leaf (SV.b false))) else (Tree.leaf (SV.b false))) else (Tree.leaf (SV.b false)) := by kernel_rfl
theorem t_c_ref02_May_6 (rd ra rb imm : Int) : evF E_ref02_May 60 55 [.agg (instrC ⟨6, rd, ra, rb, imm⟩)] = bif (decide (rd ≥ (0 : Int))) then (bif (decide (rd ≤ (15 : Int))) then (bif (decide (ra ≥ (0 : Int))) then (bif (decide (ra ≤ (15 : Int))) then (bif (decide (rb ≥ (0 : Int))) then (bif (decide (rb ≤ (15 : Int))) then (bif (BEq.beq imm (0 : Int)) then (Tree.leaf (SV.b true)) else (Tree.leaf (SV.b false))) else (Tree.leaf (SV.b false))) else (Tree.leaf (SV.b false))) else (Tree.leaf (SV.b false))) else (Tree.leaf (SV.b false))) else (Tree.leaf (SV.b false))) else (Tree.leaf (SV.b false)) := by kernel_rfl
theorem t_c_ref02_May_7 (rd ra rb imm : Int) : evF E_ref02_May 60 55 [.agg (instrC ⟨7, rd, ra, rb, imm⟩)] = bif (decide (rd ≥ (0 : Int))) then (bif (decide (rd ≤ (15 : Int))) then (bif (decide (ra ≥ (0 : Int))) then (bif (decide (ra ≤ (15 : Int))) then (bif (decide (rb ≥ (0 : Int))) then (bif (decide (rb ≤ (15 : Int))) then (bif (BEq.beq imm (0 : Int)) then (Tree.leaf (SV.b true)) else (Tree.leaf (SV.b false))) else (Tree.leaf (SV.b false))) else (Tree.leaf (SV.b false))) else (Tree.leaf (SV.b false))) else (Tree.leaf (SV.b false))) else (Tree.leaf (SV.b false))) else (Tree.leaf (SV.b false)) := by kernel_rfl
theorem t_c_ref02_May_8 (rd ra rb imm : Int) : evF E_ref02_May 60 55 [.agg (instrC ⟨8, rd, ra, rb, imm⟩)] = bif (decide (rd ≥ (0 : Int))) then (bif (decide (rd ≤ (15 : Int))) then (bif (decide (ra ≥ (0 : Int))) then (bif (decide (ra ≤ (15 : Int))) then (bif (decide (rb ≥ (0 : Int))) then (bif (decide (rb ≤ (15 : Int))) then (bif (BEq.beq imm (0 : Int)) then (Tree.leaf (SV.b true)) else (Tree.leaf (SV.b false))) else (Tree.leaf (SV.b false))) else (Tree.leaf (SV.b false))) else (Tree.leaf (SV.b false))) else (Tree.leaf (SV.b false))) else (Tree.leaf (SV.b false))) else (Tree.leaf (SV.b false)) := by kernel_rfl
theorem t_c_ref02_May_9 (rd ra rb imm : Int) : evF E_ref02_May 60 55 [.agg (instrC ⟨9, rd, ra, rb, imm⟩)] = bif (decide (rd ≥ (0 : Int))) then (bif (decide (rd ≤ (15 : Int))) then (bif (decide (ra ≥ (0 : Int))) then (bif (decide (ra ≤ (15 : Int))) then (bif (BEq.beq rb (0 : Int)) then (bif (decide ((IntKind.wrap IntKind.i64 imm) ≥ (-131072 : Int))) then (bif (decide ((IntKind.wrap IntKind.i64 imm) < (131072 : Int))) then (Tree.leaf (SV.b true)) else (Tree.leaf (SV.b false))) else (Tree.leaf (SV.b false))) else (Tree.leaf (SV.b false))) else (Tree.leaf (SV.b false))) else (Tree.leaf (SV.b false))) else (Tree.leaf (SV.b false))) else (Tree.leaf (SV.b false)) := by kernel_rfl
theorem t_c_ref02_May_10 (rd ra rb imm : Int) : evF E_ref02_May 60 55 [.agg (instrC ⟨10, rd, ra, rb, imm⟩)] = bif (decide (rd ≥ (0 : Int))) then (bif (decide (rd ≤ (15 : Int))) then (bif (BEq.beq ra (0 : Int)) then (bif (BEq.beq rb (0 : Int)) then (bif (decide ((IntKind.wrap IntKind.i64 imm) ≥ (-131072 : Int))) then (bif (decide ((IntKind.wrap IntKind.i64 imm) < (131072 : Int))) then (Tree.leaf (SV.b true)) else (Tree.leaf (SV.b false))) else (Tree.leaf (SV.b false))) else (Tree.leaf (SV.b false))) else (Tree.leaf (SV.b false))) else (Tree.leaf (SV.b false))) else (Tree.leaf (SV.b false)) := by kernel_rfl
theorem t_c_ref02_May_11 (rd ra rb imm : Int) : evF E_ref02_May 60 55 [.agg (instrC ⟨11, rd, ra, rb, imm⟩)] = bif (decide (rd ≥ (0 : Int))) then (bif (decide (rd ≤ (15 : Int))) then (bif (decide (ra ≥ (0 : Int))) then (bif (decide (ra ≤ (15 : Int))) then (bif (BEq.beq rb (0 : Int)) then (bif (decide ((IntKind.wrap IntKind.i64 imm) ≥ (-131072 : Int))) then (bif (decide ((IntKind.wrap IntKind.i64 imm) < (131072 : Int))) then (Tree.leaf (SV.b true)) else (Tree.leaf (SV.b false))) else (Tree.leaf (SV.b false))) else (Tree.leaf (SV.b false))) else (Tree.leaf (SV.b false))) else (Tree.leaf (SV.b false))) else (Tree.leaf (SV.b false))) else (Tree.leaf (SV.b false)) := by kernel_rfl
theorem t_c_ref02_May_12 (rd ra rb imm : Int) : evF E_ref02_May 60 55 [.agg (instrC ⟨12, rd, ra, rb, imm⟩)] = bif (decide (rd ≥ (0 : Int))) then (bif (decide (rd ≤ (15 : Int))) then (bif (decide (ra ≥ (0 : Int))) then (bif (decide (ra ≤ (15 : Int))) then (bif (BEq.beq rb (0 : Int)) then (bif (decide ((IntKind.wrap IntKind.i64 imm) ≥ (-131072 : Int))) then (bif (decide ((IntKind.wrap IntKind.i64 imm) < (131072 : Int))) then (Tree.leaf (SV.b true)) else (Tree.leaf (SV.b false))) else (Tree.leaf (SV.b false))) else (Tree.leaf (SV.b false))) else (Tree.leaf (SV.b false))) else (Tree.leaf (SV.b false))) else (Tree.leaf (SV.b false))) else (Tree.leaf (SV.b false)) := by kernel_rfl
theorem t_c_ref02_May_13 (rd ra rb imm : Int) : evF E_ref02_May 60 55 [.agg (instrC ⟨13, rd, ra, rb, imm⟩)] = bif (decide (rd ≥ (0 : Int))) then (bif (decide (rd ≤ (15 : Int))) then (bif (decide (ra ≥ (0 : Int))) then (bif (decide (ra ≤ (15 : Int))) then (bif (BEq.beq rb (0 : Int)) then (bif (decide ((IntKind.wrap IntKind.i64 imm) ≥ (-131072 : Int))) then (bif (decide ((IntKind.wrap IntKind.i64 imm) < (131072 : Int))) then (Tree.leaf (SV.b true)) else (Tree.leaf (SV.b false))) else (Tree.leaf (SV.b false))) else (Tree.leaf (SV.b false))) else (Tree.leaf (SV.b false))) else (Tree.leaf (SV.b false))) else (Tree.leaf (SV.b false))) else (Tree.leaf (SV.b false)) := by kernel_rfl
theorem t_c_ref02_May_14 (rd ra rb imm : Int) : evF E_ref02_May 60 55 [.agg (instrC ⟨14, rd, ra, rb, imm⟩)] = bif (decide (rd ≥ (0 : Int))) then (bif (decide (rd ≤ (15 : Int))) then (bif (decide (ra ≥ (0 : Int))) then (bif (decide (ra ≤ (15 : Int))) then (bif (BEq.beq rb (0 : Int)) then (bif (decide ((IntKind.wrap IntKind.i64 imm) ≥ (-131072 : Int))) then (bif (decide ((IntKind.wrap IntKind.i64 imm) < (131072 : Int))) then (Tree.leaf (SV.b true)) else (Tree.leaf (SV.b false))) else (Tree.leaf (SV.b false))) else (Tree.leaf (SV.b false))) else (Tree.leaf (SV.b false))) else (Tree.leaf (SV.b false))) else (Tree.leaf (SV.b false))) else (Tree.leaf (SV.b false)) := by kernel_rfl
theorem t_c_ref02_May_15 (rd ra rb imm : Int) : evF E_ref02_May 60 55 [.agg (instrC ⟨15, rd, ra, rb, imm⟩)] = bif (decide (rd ≥ (0 : Int))) then (bif (decide (rd ≤ (15 : Int))) then (bif (decide (ra ≥ (0 : Int))) then (bif (decide (ra ≤ (15 : Int))) then (bif (BEq.beq rb (0 : Int)) then (bif (decide ((IntKind.wrap IntKind.i64 imm) ≥ (-131072 : Int))) then (bif (decide ((IntKind.wrap IntKind.i64 imm) < (131072 : Int))) then (Tree.leaf (SV.b true)) else (Tree.leaf (SV.b false))) else (Tree.leaf (SV.b false))) else (Tree.leaf (SV.b false))) else (Tree.leaf (SV.b false))) else (Tree.leaf (SV.b false))) else (Tree.leaf (SV.b false))) else (Tree.leaf (SV.b false)) := by kernel_rfl
theorem t_c_ref02_May_16 (rd ra rb imm : Int) : evF E_ref02_May 60 55 [.agg (instrC ⟨16, rd, ra, rb, imm⟩)] = bif (decide (rd ≥ (0 : Int))) then (bif (decide (rd ≤ (15 : Int))) then (bif (decide (ra ≥ (0 : Int))) then (bif (decide (ra ≤ (15 : Int))) then (bif (BEq.beq rb (0 : Int)) then (bif (decide ((IntKind.wrap IntKind.i64 imm) ≥ (-131072 : Int))) then (bif (decide ((IntKind.wrap IntKind.i64 imm) < (131072 : Int))) then (Tree.leaf (SV.b true)) else (Tree.leaf (SV.b false))) else (Tree.leaf (SV.b false))) else (Tree.leaf (SV.b false))) else (Tree.leaf (SV.b false))) else (Tree.leaf (SV.b false))) else (Tree.leaf (SV.b false))) else (Tree.leaf (SV.b false)) := by kernel_rfl
theorem t_c_ref02_May_17 (rd ra rb imm : Int) : evF E_ref02_May 60 55 [.agg (instrC ⟨17, rd, ra, rb, imm⟩)] = bif (decide (rd ≥ (0 : Int))) then (bif (decide (rd ≤ (15 : Int))) then (bif (decide (ra ≥ (0 : Int))) then (bif (decide (ra ≤ (15 : Int))) then (bif (BEq.beq rb (0 : Int)) then (bif (decide ((IntKind.wrap IntKind.i64 imm) ≥ (-131072 : Int))) then (bif (decide ((IntKind.wrap IntKind.i64 imm) < (131072 : Int))) then (Tree.leaf (SV.b true)) else (Tree.leaf (SV.b false))) else (Tree.leaf (SV.b false))) else (Tree.leaf (SV.b false))) else (Tree.leaf (SV.b false))) else (Tree.leaf (SV.b false))) else (Tree.leaf (SV.b false))) else (Tree.leaf (SV.b false)) := by kernel_rfl
theorem t_c_ref02_May_18 (rd ra rb imm : Int) : evF E_ref02_May 60 55 [.agg (instrC ⟨18, rd, ra, rb, imm⟩)] = bif (decide (rd ≥ (0 : Int))) then (bif (decide (rd ≤ (15 : Int))) then (bif (BEq.beq ra (0 : Int)) then (bif (BEq.beq rb (0 : Int)) then (bif (decide ((IntKind.wrap IntKind.i64 imm) ≥ (-131072 : Int))) then (bif (decide ((IntKind.wrap IntKind.i64 imm) < (131072 : Int))) then (Tree.leaf (SV.b true)) else (Tree.leaf (SV.b false))) else (Tree.leaf (SV.b false))) else (Tree.leaf (SV.b false))) else (Tree.leaf (SV.b false))) else (Tree.leaf (SV.b false))) else (Tree.leaf (SV.b false)) := by kernel_rfl
theorem t_c_ref02_May_19 (rd ra rb imm : Int) : evF E_ref02_May 60 55 [.agg (instrC ⟨19, rd, ra, rb, imm⟩)] = bif (decide (rd ≥ (0 : Int))) then (bif (decide (rd ≤ (15 : Int))) then (bif (decide (ra ≥ (0 : Int))) then (bif (decide (ra ≤ (15 : Int))) then (bif (BEq.beq rb (0 : Int)) then (bif (decide ((IntKind.wrap IntKind.i64 imm) ≥ (-131072 : Int))) then (bif (decide ((IntKind.wrap IntKind.i64 imm) < (131072 : Int))) then (Tree.leaf (SV.b true)) else (Tree.leaf (SV.b false))) else (Tree.leaf (SV.b false))) else (Tree.leaf (SV.b false))) else (Tree.leaf (SV.b false))) else (Tree.leaf (SV.b false))) else (Tree.leaf (SV.b false))) else (Tree.leaf (SV.b false)) := by kernel_rfl
theorem t_c_ref02_May_20 (rd ra rb imm : Int) : evF E_ref02_May 60 55 [.agg (instrC ⟨20, rd, ra, rb, imm⟩)] = bif (BEq.beq rd (0 : Int)) then (bif (BEq.beq ra (0 : Int)) then (bif (BEq.beq rb (0 : Int)) then (bif (BEq.beq imm (0 : Int)) then (Tree.leaf (SV.b true)) else (Tree.leaf (SV.b false))) else (Tree.leaf (SV.b false))) else (Tree.leaf (SV.b false))) else (Tree.leaf (SV.b false)) := by kernel_rfl
theorem t_c_ref02_May_21 (rd ra rb imm : Int) : evF E_ref02_May 60 55 [.agg (instrC ⟨21, rd, ra, rb, imm⟩)] = bif (decide (rd ≥ (0 : Int))) then (bif (decide (rd ≤ (15 : Int))) then (bif (BEq.beq ra (0 : Int)) then (bif (BEq.beq rb (0 : Int)) then (bif (decide (imm ≥ (0 : Int))) then (bif (decide (imm ≤ (11 : Int))) then (Tree.leaf (SV.b true)) else (Tree.leaf (SV.b false))) else (Tree.leaf (SV.b false))) else (Tree.leaf (SV.b false))) else (Tree.leaf (SV.b false))) else (Tree.leaf (SV.b false))) else (Tree.leaf (SV.b false)) := by kernel_rfl
theorem t_c_ref02_May_22 (rd ra rb imm : Int) : evF E_ref02_May 60 55 [.agg (instrC ⟨22, rd, ra, rb, imm⟩)] = bif (BEq.beq rd (0 : Int)) then (bif (decide (ra ≥ (0 : Int))) then (bif (decide (ra ≤ (15 : Int))) then (bif (BEq.beq rb (0 : Int)) then (bif (decide (imm ≥ (0 : Int))) then (bif (decide (imm ≤ (11 : Int))) then (Tree.leaf (SV.b true)) else (Tree.leaf (SV.b false))) else (Tree.leaf (SV.b false))) else (Tree.leaf (SV.b false))) else (Tree.leaf (SV.b false))) else (Tree.leaf (SV.b false))) else (Tree.leaf (SV.b false)) := by kernel_rfl
theorem t_c_ref02_May_23 (rd ra rb imm : Int) : evF E_ref02_May 60 55 [.agg (instrC ⟨23, rd, ra, rb, imm⟩)] = bif (BEq.beq rd (0 : Int)) then (bif (BEq.beq ra (0 : Int)) then (bif (BEq.beq rb (0 : Int)) then (bif (BEq.beq imm (0 : Int)) then (Tree.leaf (SV.b true)) else (Tree.leaf (SV.b false))) else (Tree.leaf (SV.b false))) else (Tree.leaf (SV.b false))) else (Tree.leaf (SV.b false)) := by kernel_rfl
theorem t_c_ref02_May_24 (rd ra rb imm : Int) : evF E_ref02_May 60 55 [.agg (instrC ⟨24, rd, ra, rb, imm⟩)] = bif (BEq.beq rd (0 : Int)) then (bif (BEq.beq ra (0 : Int)) then (bif (BEq.beq rb (0 : Int)) then (bif (BEq.beq imm (0 : Int)) then (Tree.leaf (SV.b true)) else (Tree.leaf (SV.b false))) else (Tree.leaf (SV.b false))) else (Tree.leaf (SV.b false))) else (Tree.leaf (SV.b false)) := by kernel_rfl
theorem t_c_ref02_May_25 (rd ra rb imm : Int) : evF E_ref02_May 60 55 [.agg (instrC ⟨25, rd, ra, rb, imm⟩)] = bif (BEq.beq rd (0 : Int)) then (bif (decide (ra ≥ (0 : Int))) then (bif (decide (ra ≤ (15 : Int))) then (bif (BEq.beq rb (0 : Int)) then (bif (BEq.beq imm (0 : Int)) then (Tree.leaf (SV.b true)) else (Tree.leaf (SV.b false))) else (Tree.leaf (SV.b false))) else (Tree.leaf (SV.b false))) else (Tree.leaf (SV.b false))) else (Tree.leaf (SV.b false)) := by kernel_rfl
theorem t_c_ref02_May_n (m : Nat) (rd ra rb imm : Int) : evF E_ref02_May 60 55 [.agg (instrC ⟨.negSucc m, rd, ra, rb, imm⟩)] = .leaf (.b false) := by kernel_rfl
theorem t_c_ref02_May_o (m : Nat) (rd ra rb imm : Int) : evF E_ref02_May 60 55 [.agg (instrC ⟨.ofNat (m + 26), rd, ra, rb, imm⟩)] = .leaf (.b false) := by kernel_rfl
theorem a_c_ref02_May (i : PInstr) (ok_i : okInstr i) : (evF E_ref02_May 60 55 [.agg (instrC i)]).ends fun out_ => decO [.b] out_ = some (K.may i) := by
  obtain ⟨op, rd, ra, rb, imm⟩ := i
  obtain ⟨im0, im1⟩ := okI_i32 ok_i.imm
  have ew : IntKind.i64.wrap imm = imm := wrapI64 (by simp only at im0; omega) (by simp only at im1; omega)
  clear ok_i im0 im1
  have out : (op < 0 ∨ 26 ≤ op) → K.form op = 0 := fun h => by unfold K.form; (repeat' split) <;> first | rfl | omega
  rcases op_cases op with ⟨m, rfl⟩ | ⟨m, rfl⟩ | rfl | rfl | rfl | rfl | rfl | rfl | rfl | rfl | rfl | rfl | rfl | rfl | rfl | rfl | rfl | rfl | rfl | rfl | rfl | rfl | rfl | rfl | rfl | rfl | rfl | rfl 
  · rw [t_c_ref02_May_n, Tree.ends_holds]; simp only [Tree.holds_loop, Tree.holds_fork, Tree.holds_next, if_true, Tree.holds_cond, Tree.holds_letv, Tree.holds_leaf, Tree.holds_fail, decO, decA, decTup, decMach, decCore, decTrap, decInstr, decPart, decGuest, decConf, decEvent, decVcpu, decStep, bytesS, boolS, eventsS, intsS, guestsS, vcpusS, rowS, castL, Option.bind_some, Option.map_some, Option.some.injEq, Nat.beq_refl, beq_self_eq_true, Bool.and_self, cond_true, cond_false, eq_self, K.may, out (.inl (Int.negSucc_lt_zero m))]; rfl
  · rw [t_c_ref02_May_o, Tree.ends_holds]; simp only [Tree.holds_loop, Tree.holds_fork, Tree.holds_next, if_true, Tree.holds_cond, Tree.holds_letv, Tree.holds_leaf, Tree.holds_fail, decO, decA, decTup, decMach, decCore, decTrap, decInstr, decPart, decGuest, decConf, decEvent, decVcpu, decStep, bytesS, boolS, eventsS, intsS, guestsS, vcpusS, rowS, castL, Option.bind_some, Option.map_some, Option.some.injEq, Nat.beq_refl, beq_self_eq_true, Bool.and_self, cond_true, cond_false, eq_self, K.may, out (.inr (show (26 : Int) ≤ Int.ofNat (m + 26) by simp; omega))]; rfl
  all_goals (first | rw [t_c_ref02_May_0] | rw [t_c_ref02_May_1] | rw [t_c_ref02_May_2] | rw [t_c_ref02_May_3] | rw [t_c_ref02_May_4] | rw [t_c_ref02_May_5] | rw [t_c_ref02_May_6] | rw [t_c_ref02_May_7] | rw [t_c_ref02_May_8] | rw [t_c_ref02_May_9] | rw [t_c_ref02_May_10] | rw [t_c_ref02_May_11] | rw [t_c_ref02_May_12] | rw [t_c_ref02_May_13] | rw [t_c_ref02_May_14] | rw [t_c_ref02_May_15] | rw [t_c_ref02_May_16] | rw [t_c_ref02_May_17] | rw [t_c_ref02_May_18] | rw [t_c_ref02_May_19] | rw [t_c_ref02_May_20] | rw [t_c_ref02_May_21] | rw [t_c_ref02_May_22] | rw [t_c_ref02_May_23] | rw [t_c_ref02_May_24] | rw [t_c_ref02_May_25] )
  all_goals (rw [Tree.ends_holds]; simp only [Tree.holds_loop, Tree.holds_fork, Tree.holds_next, if_true, Tree.holds_cond, Tree.holds_letv, Tree.holds_leaf, Tree.holds_fail, decO, decA, decTup, decMach, decCore, decTrap, decInstr, decPart, decGuest, decConf, decEvent, decVcpu, decStep, bytesS, boolS, eventsS, intsS, guestsS, vcpusS, rowS, castL, Option.bind_some, Option.map_some, Option.some.injEq, Nat.beq_refl, beq_self_eq_true, Bool.and_self, cond_true, cond_false, eq_self, beq_iff_eq, beq_eq_false_iff_ne, bne_iff_ne, bne_eq_false_iff_eq, ne_eq, decide_eq_true_eq, decide_eq_false_iff_not, ble_true, ble_false, inRange_iff, inRange_false, K.may, form_0 , form_1 , form_2 , form_3 , form_4 , form_5 , form_6 , form_7 , form_8 , form_9 , form_10 , form_11 , form_12 , form_13 , form_14 , form_15 , form_16 , form_17 , form_18 , form_19 , form_20 , form_21 , form_22 , form_23 , form_24 , form_25 , K.regOk, ew]; clear out)
  all_goals (repeat' (first | refine drop_ok ?_ | intro _ | with_reducible apply And.intro))
  all_goals grind
theorem c_ref02_May : SpecOk EB 55 S_ref02_May := spec_sig ok_ref02_May (n := 60) fun ⟨i, ⟨⟩⟩ h hok => a_c_ref02_May i (ok_instr (okSL_head hok))

/-! ref02_Form -/

def S_ref02_Form : Spec := sig [.i .i64] [.i .i64] (fun (op, _) => K.form op)
noncomputable def E_ref02_Form : Env := EB.adds []

theorem ok_ref02_Form : EnvOk E_ref02_Form := okEB.adds (l := _) trivial
theorem t_ref02_Form (op : Int) : evF E_ref02_Form 60 57 (encArgs [.i .i64] (op, ())) = bif (BEq.beq op (1 : Int)) then (Tree.leaf (SV.v (Value.int IntKind.i64 (1 : Int)))) else (bif (BEq.beq op (2 : Int)) then (Tree.leaf (SV.v (Value.int IntKind.i64 (1 : Int)))) else (bif (BEq.beq op (3 : Int)) then (Tree.leaf (SV.v (Value.int IntKind.i64 (1 : Int)))) else (bif (BEq.beq op (4 : Int)) then (Tree.leaf (SV.v (Value.int IntKind.i64 (1 : Int)))) else (bif (BEq.beq op (5 : Int)) then (Tree.leaf (SV.v (Value.int IntKind.i64 (1 : Int)))) else (bif (BEq.beq op (6 : Int)) then (Tree.leaf (SV.v (Value.int IntKind.i64 (1 : Int)))) else (bif (BEq.beq op (7 : Int)) then (Tree.leaf (SV.v (Value.int IntKind.i64 (1 : Int)))) else (bif (BEq.beq op (8 : Int)) then (Tree.leaf (SV.v (Value.int IntKind.i64 (1 : Int)))) else (bif (BEq.beq op (9 : Int)) then (Tree.leaf (SV.v (Value.int IntKind.i64 (2 : Int)))) else (bif (BEq.beq op (11 : Int)) then (Tree.leaf (SV.v (Value.int IntKind.i64 (2 : Int)))) else (bif (BEq.beq op (12 : Int)) then (Tree.leaf (SV.v (Value.int IntKind.i64 (2 : Int)))) else (bif (BEq.beq op (13 : Int)) then (Tree.leaf (SV.v (Value.int IntKind.i64 (2 : Int)))) else (bif (BEq.beq op (14 : Int)) then (Tree.leaf (SV.v (Value.int IntKind.i64 (2 : Int)))) else (bif (BEq.beq op (15 : Int)) then (Tree.leaf (SV.v (Value.int IntKind.i64 (2 : Int)))) else (bif (BEq.beq op (16 : Int)) then (Tree.leaf (SV.v (Value.int IntKind.i64 (2 : Int)))) else (bif (BEq.beq op (17 : Int)) then
 (Tree.leaf (SV.v (Value.int IntKind.i64 (2 : Int)))) else (bif (BEq.beq op (19 : Int)) then (Tree.leaf (SV.v (Value.int IntKind.i64 (2 : Int)))) else (bif (BEq.beq op (10 : Int)) then (Tree.leaf (SV.v (Value.int IntKind.i64 (3 : Int)))) else (bif (BEq.beq op (18 : Int)) then (Tree.leaf (SV.v (Value.int IntKind.i64 (3 : Int)))) else (bif (BEq.beq op (20 : Int)) then (Tree.leaf (SV.v (Value.int IntKind.i64 (4 : Int)))) else (bif (BEq.beq op (23 : Int)) then (Tree.leaf (SV.v (Value.int IntKind.i64 (4 : Int)))) else (bif (BEq.beq op (24 : Int)) then (Tree.leaf (SV.v (Value.int IntKind.i64 (4 : Int)))) else (bif (BEq.beq op (21 : Int)) then (Tree.leaf (SV.v (Value.int IntKind.i64 (5 : Int)))) else (bif (BEq.beq op (22 : Int)) then (Tree.leaf (SV.v (Value.int IntKind.i64 (6 : Int)))) else (bif (BEq.beq op (25 : Int)) then (Tree.leaf (SV.v (Value.int IntKind.i64 (7 : Int)))) else (Tree.leaf (SV.v (Value.int IntKind.i64 (0 : Int)))))))))))))))))))))))))))) := by kernel_rfl
section
attribute [local irreducible] evF evFL evFLs evFP
theorem a_ref02_Form (op : Int) (ok_op : okI .i64 op) : (evF E_ref02_Form 60 57 (encArgs [.i .i64] (op, ()))).ends fun out_ => decO [.i .i64] out_ = some (K.form op) := by
  rw [t_ref02_Form, Tree.ends_holds]
  simp only [Tree.holds_loop, Tree.holds_fork, Tree.holds_next, if_true, Tree.holds_cond, Tree.holds_letv, Tree.holds_leaf, Tree.holds_fail, decO, decA, decTup, decMach, decCore, decTrap, decInstr, decPart, decGuest, decConf, decEvent, decVcpu, decStep, bytesS, boolS, eventsS, intsS, guestsS, vcpusS, rowS, castL, Option.bind_some, Option.map_some, Option.some.injEq, Nat.beq_refl, beq_self_eq_true, Bool.and_self, cond_true, cond_false, eq_self, beq_iff_eq, beq_eq_false_iff_ne, bne_iff_ne, bne_eq_false_iff_eq, ne_eq, decide_eq_true_eq, decide_eq_false_iff_not, ble_true, ble_false, inRange_iff, inRange_false]
  repeat' (first | refine drop_ok ?_ | intro _ | with_reducible apply And.intro)
  all_goals first | (subst_vars; rfl) | (unfold K.form; (repeat' split) <;> first | rfl | omega)
  
theorem c_ref02_Form : SpecOk EB 57 S_ref02_Form := spec_sig ok_ref02_Form (n := 60) fun ⟨op, ⟨⟩⟩ h hok => a_ref02_Form op (ok_int (okSL_head hok))
end

/-! ref01_Pow -/
@[reducible] def L_ref01_Pow (n : Int) : LoopSpec where
  σ := Nat
  slots := [0, 3, 4]
  keys := []
  vals := fun j => [.v (.int .i64 n), .v (.int .u64 ((2 ^ j : Nat) : Int)), .v (.int .i64 (j : Int))]
  blks := fun _ => []
  inv := fun j => j ≤ n.toNat
  mu := fun j => n.toNat - j
def S_ref01_Pow : Spec := sig [.i .i64] [.i .u64] (fun (n, _) => K.pow n) (pre := fun (n, _) => decide (n ≤ 63))
noncomputable def E_ref01_Pow : Env := EB.adds []

theorem ok_ref01_Pow : EnvOk E_ref01_Pow := okEB.adds (l := _) trivial
theorem t_ref01_Pow (n : Int) : evFL E_ref01_Pow (fun _ => some (L_ref01_Pow n)) 60 98 (encArgs [.i .i64] (n, ())) = Tree.loop 0 (L_ref01_Pow n) [(SV.v (Value.int IntKind.i64 n)), (SV.v (Value.int IntKind.u64 (1 : Int))), (SV.v (Value.int IntKind.i64 (0 : Int)))] [] fun (x0 : Nat) => (bif (decide ((Int.ofNat x0) < n)) then ((Tree.next 0 [(SV.v (Value.int IntKind.i64 n)), (SV.v (Value.int IntKind.u64 (IntKind.wrap IntKind.u64 ((Int.ofNat (2 ^ x0)) * (2 : Int))))), (SV.v (Value.int IntKind.i64 (IntKind.wrap IntKind.i64 ((Int.ofNat x0) + (1 : Int)))))] [])) else (Tree.leaf (SV.v (Value.int IntKind.u64 (Int.ofNat (2 ^ x0)))))) := by kernel_rfl
section
attribute [local irreducible] evF evFL evFLs evFP
theorem a_ref01_Pow (n : Int) (hpre : n ≤ 63) (ok_n : okI .i64 n) : (evFL E_ref01_Pow (fun _ => some (L_ref01_Pow n)) 60 98 (encArgs [.i .i64] (n, ()))).ends fun out_ => decO [.i .u64] out_ = some (K.pow n) := by
  rw [t_ref01_Pow, Tree.ends_holds]
  simp only [Tree.holds_loop]
  refine ⟨⟨(0 : Nat), rfl, rfl, Nat.zero_le _, trivial⟩, fun (j : Nat) (hj : j ≤ n.toNat) => ?_⟩
  simp only [Tree.holds_loop, Tree.holds_fork, Tree.holds_next, if_true, Tree.holds_cond, Tree.holds_letv, Tree.holds_leaf, Tree.holds_fail]
  have h63 := pow63 (j := j) (by omega)
  refine ⟨fun h => ⟨j + 1, ?_, rfl, ?_, ?_⟩, fun h => ?_⟩
  · have h : (j : Int) < n := by simpa using h
    have h2 := pow63 (j := j + 1) (by omega)
    have e1 : IntKind.u64.wrap (((2 ^ j : Nat) : Int) * 2) = ((2 ^ (j + 1) : Nat) : Int) := by rw [wrap64, Nat.pow_succ] at *; omega
    have e2 : IntKind.i64.wrap ((j : Int) + 1) = ((j + 1 : Nat) : Int) := by rw [wrapI64 (by omega) (by omega)]; rfl
    show _ = [SV.v (.int .i64 n), .v (.int .u64 ((2 ^ (j + 1) : Nat) : Int)), .v (.int .i64 ((j + 1 : Nat) : Int))]
    rw [← e1, ← e2]; rfl
  · have h : (j : Int) < n := by simpa using h
    show j + 1 ≤ n.toNat; omega
  · have h : (j : Int) < n := by simpa using h
    show n.toNat - (j + 1) < n.toNat - j; omega
  · have h : n ≤ (j : Int) := by simpa using h
    have : j = n.toNat := by omega
    subst this; rfl
  
theorem c_ref01_Pow : SpecOk EB 98 S_ref01_Pow := spec_sigL ok_ref01_Pow (n := 60) (fun (n, _) => fun _ => some (L_ref01_Pow n)) fun ⟨n, ⟨⟩⟩ h hok => a_ref01_Pow n (of_decide_eq_true h) (ok_int (okSL_head hok))
end

/-! ref01_Low -/

def S_ref01_Low : Spec := sig [.i .i32, .i .i64] [.i .u32] (fun (v, n, _) => v % 262144) (pre := fun (v, n, _) => decide (n = 18))
noncomputable def E_ref01_Low : Env := EB.adds [(98, S_ref01_Pow)]

theorem ok_ref01_Low : EnvOk E_ref01_Low := okEB.adds (l := _) ⟨c_ref01_Pow, trivial⟩
theorem t_ref01_Low (v : Int) (n : Int) : evF E_ref01_Low 60 56 (encArgs [.i .i32, .i .i64] (v, n, ())) = bif (decide ((IntKind.wrap IntKind.i64 v) < (0 : Int))) then (bif (decide (n ≤ (63 : Int))) then (Tree.letv (okO [(AT.i IntKind.u64)]) (K.pow n) fun x0 => (bif (bne x0 (0 : Int)) then (Tree.leaf (SV.v (Value.int IntKind.u32 (IntKind.wrap IntKind.u32 (Int.tmod (IntKind.wrap IntKind.u64 (IntKind.wrap IntKind.i64 ((IntKind.wrap IntKind.i64 v) + (4294967296 : Int)))) x0))))) else (Tree.fail))) else (Tree.fail)) else (bif (decide (n ≤ (63 : Int))) then (Tree.letv (okO [(AT.i IntKind.u64)]) (K.pow n) fun x0 => (bif (bne x0 (0 : Int)) then (Tree.leaf (SV.v (Value.int IntKind.u32 (IntKind.wrap IntKind.u32 (Int.tmod (IntKind.wrap IntKind.u64 (IntKind.wrap IntKind.i64 v)) x0))))) else (Tree.fail))) else (Tree.fail)) := by kernel_rfl
section
attribute [local irreducible] evF evFL evFLs evFP
theorem a_ref01_Low (v : Int) (n : Int) (hpre : n = 18) (ok_v : okI .i32 v) (ok_n : okI .i64 n) : (evF E_ref01_Low 60 56 (encArgs [.i .i32, .i .i64] (v, n, ()))).ends fun out_ => decO [.i .u32] out_ = some (v % 262144) := by
  rw [t_ref01_Low, Tree.ends_holds]
  obtain ⟨v0, v1⟩ := okI_i32 ok_v
  subst hpre
  have e0 : IntKind.i64.wrap v = v := wrapI64 (by omega) (by omega)
  have e1 : K.pow 18 = 262144 := by decide
  have e3 : IntKind.i64.wrap (v + 4294967296) = v + 4294967296 := wrapI64 (by omega) (by omega)
  simp only [Tree.holds_loop, Tree.holds_fork, Tree.holds_next, if_true, Tree.holds_cond, Tree.holds_letv, Tree.holds_leaf, Tree.holds_fail, decO, decA, decTup, decMach, decCore, decTrap, decInstr, decPart, decGuest, decConf, decEvent, decVcpu, decStep, bytesS, boolS, eventsS, intsS, guestsS, vcpusS, rowS, castL, Option.bind_some, Option.map_some, Option.some.injEq, Nat.beq_refl, beq_self_eq_true, Bool.and_self, cond_true, cond_false, eq_self, beq_iff_eq, beq_eq_false_iff_ne, bne_iff_ne, bne_eq_false_iff_eq, ne_eq, decide_eq_true_eq, decide_eq_false_iff_not, ble_true, ble_false, inRange_iff, inRange_false, e0, e1, e3, wrap32, wrap64]
  have t1 : Int.tmod (v % 18446744073709551616) 262144 % 4294967296 = v % 262144 := by rw [Int.tmod_eq_emod_of_nonneg (by omega)]; omega
  have t2 : Int.tmod ((v + 4294967296) % 18446744073709551616) 262144 % 4294967296 = v % 262144 := by rw [Int.tmod_eq_emod_of_nonneg (by omega)]; omega
  simp only [t1, t2]
  repeat' (first | refine drop_ok ?_ | intro _ | with_reducible apply And.intro)
  all_goals first | omega | (simp_all; done)
  
theorem c_ref01_Low : SpecOk EB 56 S_ref01_Low := spec_sig ok_ref01_Low (n := 60) fun ⟨v, n, ⟨⟩⟩ h hok => a_ref01_Low v n (of_decide_eq_true h) (ok_int (okSL_head hok)) (ok_int (okSL_head (okSL_tail hok)))
end

/-! ref02_Encode -/

def S_ref02_Encode : Spec := sig [.instr] [.i .u32, .b] (fun (i, _) => K.encode i)
noncomputable def E_ref02_Encode : Env := EB.adds [(55, S_ref02_May), (57, S_ref02_Form), (56, S_ref01_Low)]

theorem ok_ref02_Encode : EnvOk E_ref02_Encode := okEB.adds (l := _) ⟨c_ref02_May, c_ref02_Form, c_ref01_Low, trivial⟩
theorem t_ref02_Encode (i : PInstr) : evF E_ref02_Encode 60 29 (encArgs [.instr] (i, ())) = Tree.letv (okO [AT.b]) (K.may i) fun x0 => (bif x0 then (Tree.letv (okO [(AT.i IntKind.u32)]) (i.imm % (262144 : Int)) fun x1 => (Tree.letv (okO [(AT.i IntKind.i64)]) (K.form i.op) fun x2 => (bif (BEq.beq x2 (1 : Int)) then (Tree.leaf (SV.tup [(SV.v (Value.int IntKind.u32 (IntKind.wrap IntKind.u32 (IntKind.wrap IntKind.u64 ((IntKind.wrap IntKind.u64 ((IntKind.wrap IntKind.u64 ((IntKind.wrap IntKind.u64 ((IntKind.wrap IntKind.u64 i.op) * (67108864 : Int))) + (IntKind.wrap IntKind.u64 ((IntKind.wrap IntKind.u64 i.rd) * (4194304 : Int))))) + (IntKind.wrap IntKind.u64 ((IntKind.wrap IntKind.u64 i.ra) * (262144 : Int))))) + (IntKind.wrap IntKind.u64 i.rb)))))), (SV.b true)])) else (Tree.leaf (SV.tup [(SV.v (Value.int IntKind.u32 (IntKind.wrap IntKind.u32 (IntKind.wrap IntKind.u64 ((IntKind.wrap IntKind.u64 ((IntKind.wrap IntKind.u64 ((IntKind.wrap IntKind.u64 ((IntKind.wrap IntKind.u64 i.op) * (67108864 : Int))) + (IntKind.wrap IntKind.u64 ((IntKind.wrap IntKind.u64 i.rd) * (4194304 : Int))))) + (IntKind.wrap IntKind.u64 ((IntKind.wrap IntKind.u64 i.ra) * (262144 : Int))))) + (IntKind.wrap IntKind.u64 x1)))))), (SV.b true)]))))) else (Tree.leaf (SV.tup [(SV.v (Value.int IntKind.u32 (0 : Int))), (SV.b false)]))) := by kernel_rfl
section
attribute [local irreducible] evF evFL evFLs evFP
theorem a_ref02_Encode (i : PInstr) (ok_i : okInstr i) : (evF E_ref02_Encode 60 29 (encArgs [.instr] (i, ()))).ends fun out_ => decO [.i .u32, .b] out_ = some (K.encode i) := by
  rw [t_ref02_Encode, Tree.ends_holds]
  simp only [Tree.holds_loop, Tree.holds_fork, Tree.holds_next, if_true, Tree.holds_cond, Tree.holds_letv, Tree.holds_leaf, Tree.holds_fail, decO, decA, decTup, decMach, decCore, decTrap, decInstr, decPart, decGuest, decConf, decEvent, decVcpu, decStep, bytesS, boolS, eventsS, intsS, guestsS, vcpusS, rowS, castL, Option.bind_some, Option.map_some, Option.some.injEq, Nat.beq_refl, beq_self_eq_true, Bool.and_self, cond_true, cond_false, eq_self, beq_iff_eq, beq_eq_false_iff_ne, bne_iff_ne, bne_eq_false_iff_eq, ne_eq, decide_eq_true_eq, decide_eq_false_iff_not, ble_true, ble_false, inRange_iff, inRange_false, wrap32, wrap64]
  unfold K.encode
  have key := fun h => K.may_of (i := i) h
  have pk := fun h => K.word_range (i := i) h
  unfold K.word at *
  repeat' (first | refine drop_ok ?_ | intro _ | with_reducible apply And.intro)
  all_goals first | (rename_i h; rw [if_neg (by simp [h])]; done) | skip
  all_goals
    have hm := key (by assumption)
    have hw := pk hm
    obtain ⟨⟨a, b⟩, ⟨c, d⟩, ⟨e, f⟩, ⟨g, j⟩, ⟨k, l⟩, one, two⟩ := hm
    rw [if_pos (by assumption)]
    simp only [Prod.mk.injEq, and_true]
    clear key pk one two
    by_cases h1 : K.form i.op = 1
    · first | contradiction | (simp only [if_pos h1] at hw ⊢; show @Eq Int _ _; omega)
    · first | contradiction | (simp only [if_neg h1] at hw ⊢; show @Eq Int _ _; omega)
  
theorem c_ref02_Encode : SpecOk EB 29 S_ref02_Encode := spec_sig ok_ref02_Encode (n := 60) fun ⟨i, ⟨⟩⟩ h hok => a_ref02_Encode i (ok_instr (okSL_head hok))
end

/-! mem_InRange -/

def S_mem_InRange : Spec := sig [.i .i64, .i .u32, .i .i64] [.b] (fun (size, a, n, _) => K.inR size a n) (pre := fun (size, a, n, _) => decide (0 ≤ n ∧ n ≤ 1099511627776 ∧ 0 ≤ size))
noncomputable def E_mem_InRange : Env := EB.adds []

theorem ok_mem_InRange : EnvOk E_mem_InRange := okEB.adds (l := _) trivial
theorem t_mem_InRange (size : Int) (a : Int) (n : Int) : evF E_mem_InRange 60 99 (encArgs [.i .i64, .i .u32, .i .i64] (size, a, n, ())) = bif (decide ((IntKind.wrap IntKind.u64 ((IntKind.wrap IntKind.u64 a) + (IntKind.wrap IntKind.u64 n))) ≤ (IntKind.wrap IntKind.u64 size))) then (Tree.leaf (SV.b true)) else (Tree.leaf (SV.b false)) := by kernel_rfl
section
attribute [local irreducible] evF evFL evFLs evFP
theorem a_mem_InRange (size : Int) (a : Int) (n : Int) (hpre : 0 ≤ n ∧ n ≤ 1099511627776 ∧ 0 ≤ size) (ok_size : okI .i64 size) (ok_a : okI .u32 a) (ok_n : okI .i64 n) : (evF E_mem_InRange 60 99 (encArgs [.i .i64, .i .u32, .i .i64] (size, a, n, ()))).ends fun out_ => decO [.b] out_ = some (K.inR size a n) := by
  rw [t_mem_InRange, Tree.ends_holds]
  obtain ⟨a0, a1⟩ := okI_u32 ok_a
  obtain ⟨s0, s1⟩ := okI_i64 ok_size
  have e1 : IntKind.u64.wrap a = a := by rw [wrap64]; omega
  have e2 : IntKind.u64.wrap n = n := by rw [wrap64]; omega
  have e3 : IntKind.u64.wrap size = size := by rw [wrap64]; omega
  have e4 : IntKind.u64.wrap (a + n) = a + n := by rw [wrap64]; omega
  simp only [Tree.holds_loop, Tree.holds_fork, Tree.holds_next, if_true, Tree.holds_cond, Tree.holds_letv, Tree.holds_leaf, Tree.holds_fail, decO, decA, decTup, decMach, decCore, decTrap, decInstr, decPart, decGuest, decConf, decEvent, decVcpu, decStep, bytesS, boolS, eventsS, intsS, guestsS, vcpusS, rowS, castL, Option.bind_some, Option.map_some, Option.some.injEq, Nat.beq_refl, beq_self_eq_true, Bool.and_self, cond_true, cond_false, eq_self, beq_iff_eq, beq_eq_false_iff_ne, bne_iff_ne, bne_eq_false_iff_eq, ne_eq, decide_eq_true_eq, decide_eq_false_iff_not, ble_true, ble_false, inRange_iff, inRange_false, K.inR, e1, e2, e3, e4]
  repeat' (first | refine drop_ok ?_ | intro _ | with_reducible apply And.intro)
  all_goals simp_all
  
theorem c_mem_InRange : SpecOk EB 99 S_mem_InRange := spec_sig ok_mem_InRange (n := 60) fun ⟨size, a, n, ⟨⟩⟩ h hok => a_mem_InRange size a n (of_decide_eq_true h) (ok_int (okSL_head hok)) (ok_int (okSL_head (okSL_tail hok))) (ok_int (okSL_head (okSL_tail (okSL_tail hok))))
end

/-! mem_WriteAt -/

def S_mem_WriteAt : Spec := sig [.rd .u8, .i .u32, .rd .u8] [.rd .u8, .b] (fun (m, a, b, _) => K.writeAt m a b) (pre := fun (m, a, b, _) => decide (m.length ≤ 1099511627776 ∧ b.length ≤ 1099511627776))
noncomputable def E_mem_WriteAt : Env := { EB.adds [(99, S_mem_InRange)] with cut0 := true }

theorem ok_mem_WriteAt : EnvOk E_mem_WriteAt := have h : EnvOk (EB.adds [(99, S_mem_InRange)]) := okEB.adds (l := _) ⟨c_mem_InRange, trivial⟩; ⟨h.mixed, h.spec, h.callee⟩
theorem t_mem_WriteAt (m : List Int) (a : Int) (b : List Int) : evF E_mem_WriteAt 60 62 (encArgs [.rd .u8, .i .u32, .rd .u8] (m, a, b, ())) = bif (decide (And ((0 : Int) ≤ (Int.ofNat (List.length b))) (And ((Int.ofNat (List.length b)) ≤ (1099511627776 : Int)) ((0 : Int) ≤ (Int.ofNat (List.length m)))))) then (Tree.letv (okO [AT.b]) (K.inR (Int.ofNat (List.length m)) a (Int.ofNat (List.length b))) fun x0 => (bif x0 then (bif (Bool.and (decide ((0 : Int) ≤ (Int.ofNat (List.length m)))) (Bool.and (decide ((Int.ofNat (List.length m)) = (Int.ofNat (List.length m)))) (decide (((Int.ofNat (List.length m)) * (1 : Int)) ≤ (140737488355328 : Int))))) then (bif (Bool.and (decide ((0 : Int) ≤ a)) (decide (a ≤ (Int.ofNat (List.length (List.append (List.take (List.length (List.replicate (Int.toNat (Int.ofNat (List.length m))) (0 : Int))) m) (List.drop (List.length m) (List.replicate (Int.toNat (Int.ofNat (List.length m))) (0 : Int))))))))) then (Tree.leaf (SV.tup [(SV.rd ETy.u8 (List.append (List.take (Int.toNat a) (List.append (List.take (List.length (List.replicate (Int.toNat (Int.ofNat (List.length m))) (0 : Int))) m) (List.drop (List.length m) (List.replicate (Int.toNat (Int.ofNat (List.length m))) (0 : Int))))) (List.append (List.take (List.length (List.drop (Int.toNat a) (List.append (List.take (List.length (List.replicate (Int.toNat (Int.ofNat (List.length m))) (0 : Int))) m) (List.drop (List.length m) (List.replicate (Int.toNat (Int.ofNat (List.length m))) (0 : Int)))))) b)
 (List.drop (List.length b) (List.drop (Int.toNat a) (List.append (List.take (List.length (List.replicate (Int.toNat (Int.ofNat (List.length m))) (0 : Int))) m) (List.drop (List.length m) (List.replicate (Int.toNat (Int.ofNat (List.length m))) (0 : Int))))))))), (SV.b true)])) else (Tree.fail)) else (Tree.fail)) else (Tree.leaf (SV.tup [(SV.rd ETy.u8 m), (SV.b false)])))) else (Tree.fail) := by kernel_rfl
section
attribute [local irreducible] evF evFL evFLs evFP
theorem a_mem_WriteAt (m : List Int) (a : Int) (b : List Int) (hpre : m.length ≤ 1099511627776 ∧ b.length ≤ 1099511627776) (ok_m : okBytes m) (ok_a : okI .u32 a) (ok_b : okBytes b) : (evF E_mem_WriteAt 60 62 (encArgs [.rd .u8, .i .u32, .rd .u8] (m, a, b, ()))).ends fun out_ => decO [.rd .u8, .b] out_ = some (K.writeAt m a b) := by
  rw [t_mem_WriteAt, Tree.ends_holds]
  obtain ⟨hm, hb⟩ := hpre
  obtain ⟨a0, a1⟩ := okI_u32 ok_a
  have d0 : List.drop m.length (List.replicate m.length (0 : Int)) = [] := List.drop_of_length_le (by simp)
  have i1 : (decide (0 ≤ (m.length : Int)) && (decide True && decide ((m.length : Int) * 1 ≤ 140737488355328))) = true := by
    simp only [decide_true, Bool.true_and, Bool.and_eq_true, decide_eq_true_eq]; omega
  have hr : K.inR m.length a b.length = true ↔ a + b.length ≤ (m.length : Int) := by simp [K.inR]
  simp only [Tree.holds_loop, Tree.holds_fork, Tree.holds_next, if_true, Tree.holds_cond, Tree.holds_letv, Tree.holds_leaf, Tree.holds_fail, decO, decA, decTup, decMach, decCore, decTrap, decInstr, decPart, decGuest, decConf, decEvent, decVcpu, decStep, bytesS, boolS, eventsS, intsS, guestsS, vcpusS, rowS, castL, Option.bind_some, Option.map_some, Option.some.injEq, Nat.beq_refl, beq_self_eq_true, Bool.and_self, cond_true, cond_false, eq_self, beq_iff_eq, beq_eq_false_iff_ne, bne_iff_ne, bne_eq_false_iff_eq, ne_eq, decide_eq_true_eq, decide_eq_false_iff_not, ble_true, ble_false, inRange_iff, inRange_false, Int.ofNat_eq_natCast, Int.toNat_natCast, List.length_replicate, List.take_length, d0, List.append_eq, List.append_nil, i1]
  repeat' (first | refine drop_ok ?_ | intro _ | with_reducible apply And.intro)
  all_goals first
    | omega
    | (rename_i q; cases q; done)
    | (unfold K.writeAt; rw [if_neg (by simp_all)]; done)
    | (have := hr.1 (by assumption)
       unfold K.writeAt K.wr
       rw [if_pos (by assumption), List.take_of_length_le (l := b) (by rw [List.length_drop]; omega), List.drop_drop])
    | (exfalso
       have := hr.1 (by assumption)
       rename_i q
       have : (decide (0 ≤ a) && decide (a ≤ (m.length : Int))) = true := by
         simp only [Bool.and_eq_true, decide_eq_true_eq]; omega
       rw [this] at q; cases q)
  
theorem c_mem_WriteAt : SpecOk EB 62 S_mem_WriteAt := spec_sig ok_mem_WriteAt (n := 60) fun ⟨m, a, b, ⟨⟩⟩ h hok => a_mem_WriteAt m a b (of_decide_eq_true h) (ok_bytes (okSL_head hok)) (ok_int (okSL_head (okSL_tail hok))) (ok_bytes (okSL_head (okSL_tail (okSL_tail hok))))
end

/-! regs_ClearZero -/

def S_regs_ClearZero : Spec := sig [.a .u32 16] [.a .u32 16] (fun (r, _) => r.set 0 0)
noncomputable def E_regs_ClearZero : Env := EB.adds []

theorem ok_regs_ClearZero : EnvOk E_regs_ClearZero := okEB.adds (l := _) trivial
theorem t_regs_ClearZero (r : List Int) : evF E_regs_ClearZero 60 60 (encArgs [.a .u32 16] (r, ())) = Tree.leaf (SV.agg [(SV.arr IntKind.u32 16 (List.set r 0 (0 : Int)))]) := by kernel_rfl
section
attribute [local irreducible] evF evFL evFLs evFP
theorem a_regs_ClearZero (r : List Int) (ok_r : okL .u32 16 r) : (evF E_regs_ClearZero 60 60 (encArgs [.a .u32 16] (r, ()))).ends fun out_ => decO [.a .u32 16] out_ = some (r.set 0 0) := by
  rw [t_regs_ClearZero, Tree.ends_holds]
  simp only [Tree.holds_loop, Tree.holds_fork, Tree.holds_next, if_true, Tree.holds_cond, Tree.holds_letv, Tree.holds_leaf, Tree.holds_fail, decO, decA, decTup, decMach, decCore, decTrap, decInstr, decPart, decGuest, decConf, decEvent, decVcpu, decStep, bytesS, boolS, eventsS, intsS, guestsS, vcpusS, rowS, castL, Option.bind_some, Option.map_some, Option.some.injEq, Nat.beq_refl, beq_self_eq_true, Bool.and_self, cond_true, cond_false, eq_self]
  
theorem c_regs_ClearZero : SpecOk EB 60 S_regs_ClearZero := spec_sig ok_regs_ClearZero (n := 60) fun ⟨r, ⟨⟩⟩ h hok => a_regs_ClearZero r (ok_arr (okSL_head hok))
end

/-! csr_Reset -/

def S_csr_Reset : Spec := sig [] [.a .u32 12] (fun _ => K.reset)
noncomputable def E_csr_Reset : Env := EB.adds []

theorem ok_csr_Reset : EnvOk E_csr_Reset := okEB.adds (l := _) trivial
theorem t_csr_Reset : evF E_csr_Reset 60 61 (encArgs [] ()) = Tree.leaf (SV.agg [(SV.arr IntKind.u32 12 [(1 : Int), (0 : Int), (0 : Int), (0 : Int), (0 : Int), (0 : Int), (0 : Int), (0 : Int), (0 : Int), (4294967295 : Int), (4294967295 : Int), (0 : Int)])]) := by kernel_rfl
section
attribute [local irreducible] evF evFL evFLs evFP
theorem a_csr_Reset : (evF E_csr_Reset 60 61 (encArgs [] ())).ends fun out_ => decO [.a .u32 12] out_ = some (K.reset) := by
  rw [t_csr_Reset, Tree.ends_holds]
  rfl
  
theorem c_csr_Reset : SpecOk EB 61 S_csr_Reset := spec_sig ok_csr_Reset (n := 60) fun () h hok => a_csr_Reset 
end

/-! config_BareGuest -/

def S_config_BareGuest : Spec := sig [.guest] [.mach] (fun (g, _) => K.bareG g) (pre := fun (g, _) => decide (g.mem.length ≤ 1099511627776))
noncomputable def E_config_BareGuest : Env := EB.adds [(62, S_mem_WriteAt), (60, S_regs_ClearZero), (61, S_csr_Reset)]

theorem ok_config_BareGuest : EnvOk E_config_BareGuest := okEB.adds (l := _) ⟨c_mem_WriteAt, c_regs_ClearZero, c_csr_Reset, trivial⟩
theorem t_config_BareGuest (g : PGuest) : evF E_config_BareGuest 60 34 (encArgs [.guest] (g, ())) = Tree.letv (okO [(AT.a IntKind.u32 16)]) (List.set g.regs 0 (0 : Int)) fun x0 => (Tree.letv (okO [(AT.a IntKind.u32 12)]) K.reset fun x1 => (bif (Bool.and (decide ((0 : Int) ≤ g.part.size)) (Bool.and (decide (g.part.size = g.part.size)) (decide ((g.part.size * (1 : Int)) ≤ (140737488355328 : Int))))) then (bif (decide (And ((List.length (List.replicate (Int.toNat g.part.size) (0 : Int))) ≤ 1099511627776) ((List.length g.mem) ≤ 1099511627776))) then (Tree.letv (okO [(AT.rd ETy.u8), AT.b]) (K.writeAt (List.replicate (Int.toNat g.part.size) (0 : Int)) (0 : Int) g.mem) fun x2 => (bif x2.snd then (Tree.leaf (SV.agg [(SV.arr IntKind.u32 16 x0), (SV.v (Value.int IntKind.u32 g.pc)), (SV.arr IntKind.u32 12 x1), (SV.rd ETy.u8 x2.fst), (SV.v (Value.int IntKind.u64 (0 : Int))), (SV.v (Value.slice Option.none 0 0)), (SV.b false)])) else (Tree.leaf (SV.agg [(SV.arr IntKind.u32 16 x0), (SV.v (Value.int IntKind.u32 g.pc)), (SV.arr IntKind.u32 12 x1), (SV.rd ETy.u8 x2.fst), (SV.v (Value.int IntKind.u64 (0 : Int))), (SV.v (Value.slice Option.none 0 0)), (SV.b false)])))) else (Tree.fail)) else (Tree.fail))) := by kernel_rfl
section
attribute [local irreducible] evF evFL evFLs evFP
theorem a_config_BareGuest (g : PGuest) (hpre : g.mem.length ≤ 1099511627776) (ok_g : okGuest g) : (evF E_config_BareGuest 60 34 (encArgs [.guest] (g, ()))).ends fun out_ => decO [.mach] out_ = some (K.bareG g) := by
  rw [t_config_BareGuest, Tree.ends_holds]
  obtain ⟨s0, s1⟩ := okI_u32 ok_g.part.size
  have i1 : (decide (0 ≤ g.part.size) && (decide True && decide (g.part.size * 1 ≤ 140737488355328))) = true := by
    simp only [decide_true, Bool.true_and, Bool.and_eq_true, decide_eq_true_eq]; omega
  simp only [Tree.holds_loop, Tree.holds_fork, Tree.holds_next, if_true, Tree.holds_cond, Tree.holds_letv, Tree.holds_leaf, Tree.holds_fail, decO, decA, decTup, decMach, decCore, decTrap, decInstr, decPart, decGuest, decConf, decEvent, decVcpu, decStep, bytesS, boolS, eventsS, intsS, guestsS, vcpusS, rowS, castL, Option.bind_some, Option.map_some, Option.some.injEq, Nat.beq_refl, beq_self_eq_true, Bool.and_self, cond_true, cond_false, eq_self, beq_iff_eq, beq_eq_false_iff_ne, bne_iff_ne, bne_eq_false_iff_eq, ne_eq, decide_eq_true_eq, decide_eq_false_iff_not, ble_true, ble_false, inRange_iff, inRange_false, Int.ofNat_eq_natCast, List.length_replicate, i1]
  repeat' (first | refine drop_ok ?_ | intro _ | with_reducible apply And.intro)
  all_goals first
    | rfl
    | (exfalso; rename_i q; exact q ⟨by omega, hpre⟩)
    | (rename_i q; cases q)
  
theorem c_config_BareGuest : SpecOk EB 34 S_config_BareGuest := spec_sig ok_config_BareGuest (n := 60) fun ⟨g, ⟨⟩⟩ h hok => a_config_BareGuest g (of_decide_eq_true h) (ok_guest (okSL_head hok))
end

/-! reloc_Translate -/

def S_reloc_Translate : Spec := sig [.i .u32, .i .u32, .i .u32, .i .u32, .i .i64] [.i .u32, .b] (fun (base, bound, size, a, n, _) => K.reloc base bound size a n) (pre := fun (base, bound, size, a, n, _) => decide (0 ≤ n ∧ n ≤ 1099511627776))
noncomputable def E_reloc_Translate : Env := EB.adds []

theorem ok_reloc_Translate : EnvOk E_reloc_Translate := okEB.adds (l := _) trivial
theorem t_reloc_Translate (base : Int) (bound : Int) (size : Int) (a : Int) (n : Int) : evF E_reloc_Translate 60 158 (encArgs [.i .u32, .i .u32, .i .u32, .i .u32, .i .i64] (base, bound, size, a, n, ())) = bif (decide ((IntKind.wrap IntKind.u64 ((IntKind.wrap IntKind.u64 a) + (IntKind.wrap IntKind.u64 n))) > (IntKind.wrap IntKind.u64 bound))) then (Tree.leaf (SV.tup [(SV.v (Value.int IntKind.u32 (0 : Int))), (SV.b false)])) else (bif (decide ((IntKind.wrap IntKind.u64 ((IntKind.wrap IntKind.u64 base) + (IntKind.wrap IntKind.u64 ((IntKind.wrap IntKind.u64 a) + (IntKind.wrap IntKind.u64 n))))) > (IntKind.wrap IntKind.u64 size))) then (Tree.leaf (SV.tup [(SV.v (Value.int IntKind.u32 (0 : Int))), (SV.b false)])) else (Tree.leaf (SV.tup [(SV.v (Value.int IntKind.u32 (IntKind.wrap IntKind.u32 (base + a)))), (SV.b true)]))) := by kernel_rfl
section
attribute [local irreducible] evF evFL evFLs evFP
theorem a_reloc_Translate (base : Int) (bound : Int) (size : Int) (a : Int) (n : Int) (hpre : 0 ≤ n ∧ n ≤ 1099511627776) (ok_base : okI .u32 base) (ok_bound : okI .u32 bound) (ok_size : okI .u32 size) (ok_a : okI .u32 a) (ok_n : okI .i64 n) : (evF E_reloc_Translate 60 158 (encArgs [.i .u32, .i .u32, .i .u32, .i .u32, .i .i64] (base, bound, size, a, n, ()))).ends fun out_ => decO [.i .u32, .b] out_ = some (K.reloc base bound size a n) := by
  rw [t_reloc_Translate, Tree.ends_holds]
  obtain ⟨a0, a1⟩ := okI_u32 ok_a
  obtain ⟨b0, b1⟩ := okI_u32 ok_base
  obtain ⟨c0, c1⟩ := okI_u32 ok_bound
  obtain ⟨d0, d1⟩ := okI_u32 ok_size
  have e1 : IntKind.u64.wrap a = a := by rw [wrap64]; omega
  have e2 : IntKind.u64.wrap n = n := by rw [wrap64]; omega
  have e3 : IntKind.u64.wrap size = size := by rw [wrap64]; omega
  have e4 : IntKind.u64.wrap (a + n) = a + n := by rw [wrap64]; omega
  have e5 : IntKind.u64.wrap base = base := by rw [wrap64]; omega
  have e6 : IntKind.u64.wrap bound = bound := by rw [wrap64]; omega
  have e7 : IntKind.u64.wrap (base + (a + n)) = base + (a + n) := by rw [wrap64]; omega
  simp only [Tree.holds_loop, Tree.holds_fork, Tree.holds_next, if_true, Tree.holds_cond, Tree.holds_letv, Tree.holds_leaf, Tree.holds_fail, decO, decA, decTup, decMach, decCore, decTrap, decInstr, decPart, decGuest, decConf, decEvent, decVcpu, decStep, bytesS, boolS, eventsS, intsS, guestsS, vcpusS, rowS, castL, Option.bind_some, Option.map_some, Option.some.injEq, Nat.beq_refl, beq_self_eq_true, Bool.and_self, cond_true, cond_false, eq_self, beq_iff_eq, beq_eq_false_iff_ne, bne_iff_ne, bne_eq_false_iff_eq, ne_eq, decide_eq_true_eq, decide_eq_false_iff_not, ble_true, ble_false, inRange_iff, inRange_false, K.reloc, e1, e2, e3, e4, e5, e6, e7]
  repeat' (first | refine drop_ok ?_ | intro _ | with_reducible apply And.intro)
  · rw [if_neg (by omega)]
  · rw [if_neg (by omega)]
  · rw [if_pos (by omega), show IntKind.u32.wrap (base + a) = base + a by rw [wrap32]; omega]
  
theorem c_reloc_Translate : SpecOk EB 158 S_reloc_Translate := spec_sig ok_reloc_Translate (n := 60) fun ⟨base, bound, size, a, n, ⟨⟩⟩ h hok => a_reloc_Translate base bound size a n (of_decide_eq_true h) (ok_int (okSL_head hok)) (ok_int (okSL_head (okSL_tail hok))) (ok_int (okSL_head (okSL_tail (okSL_tail hok)))) (ok_int (okSL_head (okSL_tail (okSL_tail (okSL_tail hok))))) (ok_int (okSL_head (okSL_tail (okSL_tail (okSL_tail (okSL_tail hok))))))
end

/-! reloc_TranslateCore -/

def S_reloc_TranslateCore : Spec := sig [.core, .i .u32, .i .u32, .i .i64] [.i .u32, .b] (fun (c, size, a, n, _) => K.trans c size a n) (pre := fun (c, size, a, n, _) => decide (0 ≤ n ∧ n ≤ 1099511627776))
noncomputable def E_reloc_TranslateCore : Env := EB.adds [(158, S_reloc_Translate)]

theorem ok_reloc_TranslateCore : EnvOk E_reloc_TranslateCore := okEB.adds (l := _) ⟨c_reloc_Translate, trivial⟩
theorem t_reloc_TranslateCore (c : PCore) (size : Int) (a : Int) (n : Int) : evF E_reloc_TranslateCore 60 141 (encArgs [.core, .i .u32, .i .u32, .i .i64] (c, size, a, n, ())) = bif (bne (andI IntKind.u32 (List.getD c.csr 0 (0 : Int)) (1 : Int)) (0 : Int)) then (bif (decide (And ((0 : Int) ≤ n) (n ≤ (1099511627776 : Int)))) then (Tree.letv (okO [(AT.i IntKind.u32), AT.b]) (K.reloc (0 : Int) size size a n) fun x0 => (bif x0.snd then (Tree.leaf (SV.tup [(SV.v (Value.int IntKind.u32 x0.fst)), (SV.b true)])) else (Tree.leaf (SV.tup [(SV.v (Value.int IntKind.u32 x0.fst)), (SV.b false)])))) else (Tree.fail)) else (bif (decide (And ((0 : Int) ≤ n) (n ≤ (1099511627776 : Int)))) then (Tree.letv (okO [(AT.i IntKind.u32), AT.b]) (K.reloc (List.getD c.csr 5 (0 : Int)) (List.getD c.csr 6 (0 : Int)) size a n) fun x0 => (bif x0.snd then (Tree.leaf (SV.tup [(SV.v (Value.int IntKind.u32 x0.fst)), (SV.b true)])) else (Tree.leaf (SV.tup [(SV.v (Value.int IntKind.u32 x0.fst)), (SV.b false)])))) else (Tree.fail)) := by kernel_rfl
section
attribute [local irreducible] evF evFL evFLs evFP
theorem a_reloc_TranslateCore (c : PCore) (size : Int) (a : Int) (n : Int) (hpre : 0 ≤ n ∧ n ≤ 1099511627776) (ok_c : okCore c) (ok_size : okI .u32 size) (ok_a : okI .u32 a) (ok_n : okI .i64 n) : (evF E_reloc_TranslateCore 60 141 (encArgs [.core, .i .u32, .i .u32, .i .i64] (c, size, a, n, ()))).ends fun out_ => decO [.i .u32, .b] out_ = some (K.trans c size a n) := by
  rw [t_reloc_TranslateCore, Tree.ends_holds]
  obtain ⟨s0, s1⟩ := ok_c.csr.u32 (i := 0) (by omega)
  simp only [Tree.holds_loop, Tree.holds_fork, Tree.holds_next, if_true, Tree.holds_cond, Tree.holds_letv, Tree.holds_leaf, Tree.holds_fail, decO, decA, decTup, decMach, decCore, decTrap, decInstr, decPart, decGuest, decConf, decEvent, decVcpu, decStep, bytesS, boolS, eventsS, intsS, guestsS, vcpusS, rowS, castL, Option.bind_some, Option.map_some, Option.some.injEq, Nat.beq_refl, beq_self_eq_true, Bool.and_self, cond_true, cond_false, eq_self, beq_iff_eq, beq_eq_false_iff_ne, bne_iff_ne, bne_eq_false_iff_eq, ne_eq, decide_eq_true_eq, decide_eq_false_iff_not, ble_true, ble_false, inRange_iff, inRange_false, and_1 s0 s1]
  have h1 : ¬ c.csr.getD 0 0 % 2 = 0 → K.trans c size a n = K.reloc 0 size size a n := fun h => by unfold K.trans K.super; rw [if_pos (by simp only [beq_iff_eq]; omega)]
  have h2 : c.csr.getD 0 0 % 2 = 0 → K.trans c size a n = K.reloc (c.csr.getD 5 0) (c.csr.getD 6 0) size a n := fun h => by unfold K.trans K.super; rw [if_neg (by rw [h]; decide)]
  repeat' (first | refine drop_ok ?_ | intro _ | with_reducible apply And.intro)
  all_goals first | omega | (rename_i q; rw [← q]; first | rw [h1 (by assumption)] | rw [h2 (by assumption)])
  
theorem c_reloc_TranslateCore : SpecOk EB 141 S_reloc_TranslateCore := spec_sig ok_reloc_TranslateCore (n := 60) fun ⟨c, size, a, n, ⟨⟩⟩ h hok => a_reloc_TranslateCore c size a n (of_decide_eq_true h) (ok_core (okSL_head hok)) (ok_int (okSL_head (okSL_tail hok))) (ok_int (okSL_head (okSL_tail (okSL_tail hok)))) (ok_int (okSL_head (okSL_tail (okSL_tail (okSL_tail hok)))))
end

/-! fetch_Resolve -/

def S_fetch_Resolve : Spec := sig [.mach, .i .u32, .i .i64] [.i .u32, .trap] (fun (m, a, n, _) => K.cell m a n) (pre := fun (m, a, n, _) => decide (n = 1 ∨ n = 4))
noncomputable def E_fetch_Resolve : Env := EB_2.adds [(141, S_reloc_TranslateCore)]

theorem ok_fetch_Resolve : EnvOk E_fetch_Resolve := okEB_2.adds (l := _) ⟨(up_to_2 c_reloc_TranslateCore), trivial⟩
theorem t_fetch_Resolve (m : PMach) (a : Int) (n : Int) : evF E_fetch_Resolve 60 118 (encArgs [.mach, .i .u32, .i .i64] (m, a, n, ())) = bif (bne (IntKind.wrap IntKind.u32 n) (0 : Int)) then (bif (bne (Int.tmod a (IntKind.wrap IntKind.u32 n)) (0 : Int)) then (Tree.leaf (SV.tup [(SV.v (Value.int IntKind.u32 (0 : Int))), (SV.agg [(SV.v (Value.int IntKind.i64 (4 : Int))), (SV.v (Value.int IntKind.u32 a))])])) else (bif (decide (And ((0 : Int) ≤ n) (n ≤ (1099511627776 : Int)))) then (Tree.letv (okO [(AT.i IntKind.u32), AT.b]) (K.trans m.core (IntKind.wrap IntKind.u32 (Int.ofNat (List.length m.mem))) a n) fun x0 => (bif x0.snd then (Tree.leaf (SV.tup [(SV.v (Value.int IntKind.u32 x0.fst)), (SV.agg [(SV.v (Value.int IntKind.i64 (0 : Int))), (SV.v (Value.int IntKind.u32 (0 : Int)))])])) else (Tree.leaf (SV.tup [(SV.v (Value.int IntKind.u32 (0 : Int))), (SV.agg [(SV.v (Value.int IntKind.i64 (3 : Int))), (SV.v (Value.int IntKind.u32 a))])])))) else (Tree.fail))) else (Tree.fail) := by kernel_rfl
section
attribute [local irreducible] evF evFL evFLs evFP
theorem a_fetch_Resolve (m : PMach) (a : Int) (n : Int) (hpre : n = 1 ∨ n = 4) (ok_m : okMach m) (ok_a : okI .u32 a) (ok_n : okI .i64 n) : (evF E_fetch_Resolve 60 118 (encArgs [.mach, .i .u32, .i .i64] (m, a, n, ()))).ends fun out_ => decO [.i .u32, .trap] out_ = some (K.cell m a n) := by
  rw [t_fetch_Resolve, Tree.ends_holds]
  obtain ⟨a0, a1⟩ := okI_u32 ok_a
  have hn : 1 ≤ n ∧ n ≤ 4 := by omega
  have e1 : IntKind.u32.wrap n = n := by rw [wrap32]; omega
  have e2 : Int.tmod a n = a % n := Int.tmod_eq_emod_of_nonneg a0
  have e3 : IntKind.u32.wrap (m.mem.length : Int) = (m.mem.length : Int) % 4294967296 := wrap32 _
  simp only [Tree.holds_loop, Tree.holds_fork, Tree.holds_next, if_true, Tree.holds_cond, Tree.holds_letv, Tree.holds_leaf, Tree.holds_fail, decO, decA, decTup, decMach, decCore, decTrap, decInstr, decPart, decGuest, decConf, decEvent, decVcpu, decStep, bytesS, boolS, eventsS, intsS, guestsS, vcpusS, rowS, castL, Option.bind_some, Option.map_some, Option.some.injEq, Nat.beq_refl, beq_self_eq_true, Bool.and_self, cond_true, cond_false, eq_self, beq_iff_eq, beq_eq_false_iff_ne, bne_iff_ne, bne_eq_false_iff_eq, ne_eq, decide_eq_true_eq, decide_eq_false_iff_not, ble_true, ble_false, inRange_iff, inRange_false, Int.ofNat_eq_natCast, e1, e2, e3, K.cell]
  repeat' (first | refine drop_ok ?_ | intro _ | with_reducible apply And.intro)
  all_goals first | omega | (simp_all; done)
  
theorem c_fetch_Resolve : SpecOk EB_2 118 S_fetch_Resolve := spec_sig ok_fetch_Resolve (n := 60) fun ⟨m, a, n, ⟨⟩⟩ h hok => a_fetch_Resolve m a n (of_decide_eq_true h) (ok_mach (okSL_head hok)) (ok_int (okSL_head (okSL_tail hok))) (ok_int (okSL_head (okSL_tail (okSL_tail hok))))
end

/-! mem_Load -/

def S_mem_Load : Spec := sig [.rd .u8, .i .u32, .i .i64] [.i .u32, .b] (fun (m, a, n, _) => if K.inR m.length a n = true then (K.ld m a n, true) else (0, false)) (pre := fun (m, a, n, _) => decide (n = 1 ∨ n = 4))
noncomputable def E_mem_Load : Env := EB.adds [(99, S_mem_InRange)]

theorem ok_mem_Load : EnvOk E_mem_Load := okEB.adds (l := _) ⟨c_mem_InRange, trivial⟩
theorem t1_c_mem_Load (m : List Int) (a : Int) : evF E_mem_Load 60 119 [.rd .u8 m, .v (.int .u32 a), .v (.int .i64 1)] = 
  bif (decide (And ((0 : Int) ≤ (1 : Int)) (And ((1 : Int) ≤ (1099511627776 : Int)) ((0 : Int) ≤ (Int.ofNat (List.length m)))))) then
    (Tree.letv (okO [AT.b]) (K.inR (Int.ofNat (List.length m)) a (1 : Int)) fun x0 =>
    (bif x0 then
      (bif (inRange (IntKind.wrap IntKind.i64 ((IntKind.wrap IntKind.i64 a) + (0 : Int))) (List.length m)) then
        (Tree.leaf (SV.tup [(SV.v (Value.int IntKind.u32 (orI IntKind.u32 (0 : Int) (IntKind.wrap IntKind.u32 ((IntKind.wrap IntKind.u32 (List.getD m (Int.toNat (IntKind.wrap IntKind.i64 ((IntKind.wrap IntKind.i64 a) + (0 : Int)))) (0 : Int))) * (1 : Int)))))), (SV.b true)]))
      else
        (Tree.fail))
    else
      (Tree.leaf (SV.tup [(SV.v (Value.int IntKind.u32 (0 : Int))), (SV.b false)]))))
  else
    (Tree.fail) := by kernel_rfl
theorem t4_c_mem_Load (m : List Int) (a : Int) : evF E_mem_Load 60 119 [.rd .u8 m, .v (.int .u32 a), .v (.int .i64 4)] = 
  bif (decide (And ((0 : Int) ≤ (4 : Int)) (And ((4 : Int) ≤ (1099511627776 : Int)) ((0 : Int) ≤ (Int.ofNat (List.length m)))))) then
    (Tree.letv (okO [AT.b]) (K.inR (Int.ofNat (List.length m)) a (4 : Int)) fun x0 =>
    (bif x0 then
      (bif (inRange (IntKind.wrap IntKind.i64 ((IntKind.wrap IntKind.i64 a) + (0 : Int))) (List.length m)) then
        (bif (inRange (IntKind.wrap IntKind.i64 ((IntKind.wrap IntKind.i64 a) + (1 : Int))) (List.length m)) then
          (bif (inRange (IntKind.wrap IntKind.i64 ((IntKind.wrap IntKind.i64 a) + (2 : Int))) (List.length m)) then
            (bif (inRange (IntKind.wrap IntKind.i64 ((IntKind.wrap IntKind.i64 a) + (3 : Int))) (List.length m)) then
              (Tree.leaf (SV.tup [(SV.v (Value.int IntKind.u32 (orI IntKind.u32 (orI IntKind.u32 (orI IntKind.u32 (orI IntKind.u32 (0 : Int) (IntKind.wrap IntKind.u32 ((IntKind.wrap IntKind.u32 (List.getD m (Int.toNat (IntKind.wrap IntKind.i64 ((IntKind.wrap IntKind.i64 a) + (0 : Int)))) (0 : Int))) * (1 : Int)))) (IntKind.wrap IntKind.u32 ((IntKind.wrap IntKind.u32 (List.getD m (Int.toNat (IntKind.wrap IntKind.i64 ((IntKind.wrap IntKind.i64 a) + (1 : Int)))) (0 : Int))) * (256 : Int)))) (IntKind.wrap IntKind.u32 ((IntKind.wrap IntKind.u32 (List.getD m (Int.toNat (IntKind.wrap IntKind.i64 ((IntKind.wrap IntKind.i64 a) + (2 : Int)))) (0 : Int))) * (65536 : Int)))) (IntKind.wrap IntKind.u32 ((IntKind.wrap IntKind.u32 (List.getD m (Int.toNat (IntKind.wrap IntKind.i64 ((IntKind.wrap IntKind.i64 a) + (3 : Int)))) (0 : Int))) * (16777216 : Int)))))), (SV.b true)]))
            else
              (Tree.fail))
          else
            (Tree.fail))
        else
          (Tree.fail))
      else
        (Tree.fail))
    else
      (Tree.leaf (SV.tup [(SV.v (Value.int IntKind.u32 (0 : Int))), (SV.b false)]))))
  else
    (Tree.fail) := by kernel_rfl
theorem a1_c_mem_Load (m : List Int) (a : Int) (ok_m : okBytes m) (ok_a : okI .u32 a) : (evF E_mem_Load 60 119 [.rd .u8 m, .v (.int .u32 a), .v (.int .i64 1)]).ends fun out_ => decO [.i .u32, .b] out_ = some (if K.inR m.length a 1 = true then (K.ld m a 1, true) else (0, false)) := by
  rw [t1_c_mem_Load, Tree.ends_holds]
  obtain ⟨a0, a1⟩ := okI_u32 ok_a
  have b0 := byte_at ok_m a.toNat
  have i0 : IntKind.i64.wrap (IntKind.i64.wrap a + 0) = a := by rw [wrapI64 (by rw [wrapI64 (by omega) (by omega)]; omega) (by rw [wrapI64 (by omega) (by omega)]; omega), wrapI64 (by omega) (by omega)]; omega
  have v0 : IntKind.u32.wrap (IntKind.u32.wrap (m.getD a.toNat 0) * 1) = m.getD a.toNat 0 := by rw [wrap32, wrap32]; omega
  simp only [Tree.holds_loop, Tree.holds_fork, Tree.holds_next, if_true, Tree.holds_cond, Tree.holds_letv, Tree.holds_leaf, Tree.holds_fail, decO, decA, decTup, decMach, decCore, decTrap, decInstr, decPart, decGuest, decConf, decEvent, decVcpu, decStep, bytesS, boolS, eventsS, intsS, guestsS, vcpusS, rowS, castL, Option.bind_some, Option.map_some, Option.some.injEq, Nat.beq_refl, beq_self_eq_true, Bool.and_self, cond_true, cond_false, eq_self, beq_iff_eq, beq_eq_false_iff_ne, bne_iff_ne, bne_eq_false_iff_eq, ne_eq, decide_eq_true_eq, decide_eq_false_iff_not, ble_true, ble_false, inRange_iff, inRange_false, Int.ofNat_eq_natCast, i0, v0, or_zero b0.1 b0.2]
  repeat' (first | refine drop_ok ?_ | intro _ | with_reducible apply And.intro)
  all_goals first | (rw [if_pos (by assumption)]; rfl) | (rw [if_neg (by simp_all)]) | omega | (simp_all [K.inR]; omega)
theorem a4_c_mem_Load (m : List Int) (a : Int) (ok_m : okBytes m) (ok_a : okI .u32 a) : (evF E_mem_Load 60 119 [.rd .u8 m, .v (.int .u32 a), .v (.int .i64 4)]).ends fun out_ => decO [.i .u32, .b] out_ = some (if K.inR m.length a 4 = true then (K.ld m a 4, true) else (0, false)) := by
  rw [t4_c_mem_Load, Tree.ends_holds]
  obtain ⟨a0, a1⟩ := okI_u32 ok_a
  have ew : IntKind.i64.wrap a = a := wrapI64 (by omega) (by omega)
  have i0 : IntKind.i64.wrap (a + 0) = a := by rw [wrapI64 (by omega) (by omega)]; omega
  have i1 : IntKind.i64.wrap (a + 1) = a + 1 := wrapI64 (by omega) (by omega)
  have i2 : IntKind.i64.wrap (a + 2) = a + 2 := wrapI64 (by omega) (by omega)
  have i3 : IntKind.i64.wrap (a + 3) = a + 3 := wrapI64 (by omega) (by omega)
  have n1 : (a + 1).toNat = a.toNat + 1 := by omega
  have n2 : (a + 2).toNat = a.toNat + 2 := by omega
  have n3 : (a + 3).toNat = a.toNat + 3 := by omega
  obtain ⟨p0, q0⟩ := byte_at ok_m a.toNat
  obtain ⟨p1, q1⟩ := byte_at ok_m (a.toNat + 1)
  obtain ⟨p2, q2⟩ := byte_at ok_m (a.toNat + 2)
  obtain ⟨p3, q3⟩ := byte_at ok_m (a.toNat + 3)
  simp only [Tree.holds_loop, Tree.holds_fork, Tree.holds_next, if_true, Tree.holds_cond, Tree.holds_letv, Tree.holds_leaf, Tree.holds_fail, decO, decA, decTup, decMach, decCore, decTrap, decInstr, decPart, decGuest, decConf, decEvent, decVcpu, decStep, bytesS, boolS, eventsS, intsS, guestsS, vcpusS, rowS, castL, Option.bind_some, Option.map_some, Option.some.injEq, Nat.beq_refl, beq_self_eq_true, Bool.and_self, cond_true, cond_false, eq_self, beq_iff_eq, beq_eq_false_iff_ne, bne_iff_ne, bne_eq_false_iff_eq, ne_eq, decide_eq_true_eq, decide_eq_false_iff_not, ble_true, ble_false, inRange_iff, inRange_false, Int.ofNat_eq_natCast, ew, i0, i1, i2, i3, n1, n2, n3, wrap32, ld4 p0 q0 p1 q1 p2 q2 p3 q3]
  repeat' (first | refine drop_ok ?_ | intro _ | with_reducible apply And.intro)
  all_goals first | (rw [if_pos (by assumption)]; rfl) | (rw [if_neg (by simp_all)]) | omega | (simp_all [K.inR]; omega)
theorem c_mem_Load : SpecOk EB 119 S_mem_Load := spec_sig ok_mem_Load (n := 60) fun ⟨m, a, n, ⟨⟩⟩ h hok => by
  have h := of_decide_eq_true h
  have o1 := ok_bytes (okSL_head hok)
  have o2 := ok_int (okSL_head (okSL_tail hok))
  rcases h with h | h
  · have h : n = 1 := h
    subst h; exact a1_c_mem_Load m a o1 o2
  · have h : n = 4 := h
    subst h; exact a4_c_mem_Load m a o1 o2

/-! fetch_Load -/

def S_fetch_Load : Spec := sig [.mach, .i .u32, .i .i64] [.i .u32, .trap] (fun (m, a, n, _) => K.load m a n) (pre := fun (m, a, n, _) => decide (n = 1 ∨ n = 4))
noncomputable def E_fetch_Load : Env := EB_2.adds [(118, S_fetch_Resolve), (119, S_mem_Load)]

theorem ok_fetch_Load : EnvOk E_fetch_Load := okEB_2.adds (l := _) ⟨c_fetch_Resolve, (up_to_2 c_mem_Load), trivial⟩
theorem t_fetch_Load (m : PMach) (a : Int) (n : Int) : evF E_fetch_Load 60 84 (encArgs [.mach, .i .u32, .i .i64] (m, a, n, ())) = bif (decide (Or (n = (1 : Int)) (n = (4 : Int)))) then (Tree.letv (okO [(AT.i IntKind.u32), AT.trap]) (K.cell m a n) fun x0 => (bif (Bool.not (Bool.and (BEq.beq x0.snd.cause (0 : Int)) (Bool.and (BEq.beq x0.snd.tval (0 : Int)) true))) then (Tree.leaf (SV.tup [(SV.v (Value.int IntKind.u32 (0 : Int))), (SV.agg [(SV.v (Value.int IntKind.i64 x0.snd.cause)), (SV.v (Value.int IntKind.u32 x0.snd.tval))])])) else (bif (decide (Or (n = (1 : Int)) (n = (4 : Int)))) then (Tree.letv (okO [(AT.i IntKind.u32), AT.b]) (if ((K.inR (Int.ofNat (List.length m.mem)) x0.fst n) = true) then ((K.ld m.mem x0.fst n), true) else ((0 : Int), false)) fun x1 => (bif x1.snd then (Tree.leaf (SV.tup [(SV.v (Value.int IntKind.u32 x1.fst)), (SV.agg [(SV.v (Value.int IntKind.i64 (0 : Int))), (SV.v (Value.int IntKind.u32 (0 : Int)))])])) else (Tree.leaf (SV.tup [(SV.v (Value.int IntKind.u32 x1.fst)), (SV.agg [(SV.v (Value.int IntKind.i64 (0 : Int))), (SV.v (Value.int IntKind.u32 (0 : Int)))])])))) else (Tree.fail)))) else (Tree.fail) := by kernel_rfl
section
attribute [local irreducible] evF evFL evFLs evFP
theorem a_fetch_Load (m : PMach) (a : Int) (n : Int) (hpre : n = 1 ∨ n = 4) (ok_m : okMach m) (ok_a : okI .u32 a) (ok_n : okI .i64 n) : (evF E_fetch_Load 60 84 (encArgs [.mach, .i .u32, .i .i64] (m, a, n, ()))).ends fun out_ => decO [.i .u32, .trap] out_ = some (K.load m a n) := by
  rw [t_fetch_Load, Tree.ends_holds]
  obtain ⟨a0, a1⟩ := okI_u32 ok_a
  have hr := fun h => cell_range ok_m.core (a := a) (n := n) a0 (by omega) h
  simp only [Tree.holds_loop, Tree.holds_fork, Tree.holds_next, if_true, Tree.holds_cond, Tree.holds_letv, Tree.holds_leaf, Tree.holds_fail, decO, decA, decTup, decMach, decCore, decTrap, decInstr, decPart, decGuest, decConf, decEvent, decVcpu, decStep, bytesS, boolS, eventsS, intsS, guestsS, vcpusS, rowS, castL, Option.bind_some, Option.map_some, Option.some.injEq, Nat.beq_refl, beq_self_eq_true, Bool.and_self, cond_true, cond_false, eq_self, beq_iff_eq, beq_eq_false_iff_ne, bne_iff_ne, bne_eq_false_iff_eq, ne_eq, decide_eq_true_eq, decide_eq_false_iff_not, ble_true, ble_false, inRange_iff, inRange_false, Int.ofNat_eq_natCast, K.load]
  by_cases h : (K.cell m a n).2.cause = 0
  · have ht := cell_zero h
    have hi : K.inR m.mem.length (K.cell m a n).1 n = true := by have := hr h; simp only [K.inR, decide_eq_true_eq]; omega
    simp only [h, ht, hi, if_true]
    simp [hpre]
  · simp [h, hpre]
  
theorem c_fetch_Load : SpecOk EB_2 84 S_fetch_Load := spec_sig ok_fetch_Load (n := 60) fun ⟨m, a, n, ⟨⟩⟩ h hok => a_fetch_Load m a n (of_decide_eq_true h) (ok_mach (okSL_head hok)) (ok_int (okSL_head (okSL_tail hok))) (ok_int (okSL_head (okSL_tail (okSL_tail hok))))
end

/-! fetch_Fetch -/

def S_fetch_Fetch : Spec := sig [.mach] [.i .u32, .trap] (fun (m, _) => K.load m m.core.pc 4)
noncomputable def E_fetch_Fetch : Env := EB_2.adds [(84, S_fetch_Load)]

theorem ok_fetch_Fetch : EnvOk E_fetch_Fetch := okEB_2.adds (l := _) ⟨c_fetch_Load, trivial⟩
theorem t_fetch_Fetch (m : PMach) : evF E_fetch_Fetch 60 45 (encArgs [.mach] (m, ())) = Tree.letv (okO [(AT.i IntKind.u32), AT.trap]) (K.load m m.core.pc (4 : Int)) fun x0 => (Tree.leaf (SV.tup [(SV.v (Value.int IntKind.u32 x0.fst)), (SV.agg [(SV.v (Value.int IntKind.i64 x0.snd.cause)), (SV.v (Value.int IntKind.u32 x0.snd.tval))])])) := by kernel_rfl
section
attribute [local irreducible] evF evFL evFLs evFP
theorem a_fetch_Fetch (m : PMach) (ok_m : okMach m) : (evF E_fetch_Fetch 60 45 (encArgs [.mach] (m, ()))).ends fun out_ => decO [.i .u32, .trap] out_ = some (K.load m m.core.pc 4) := by
  rw [t_fetch_Fetch, Tree.ends_holds]
  simp only [Tree.holds_loop, Tree.holds_fork, Tree.holds_next, if_true, Tree.holds_cond, Tree.holds_letv, Tree.holds_leaf, Tree.holds_fail, decO, decA, decTup, decMach, decCore, decTrap, decInstr, decPart, decGuest, decConf, decEvent, decVcpu, decStep, bytesS, boolS, eventsS, intsS, guestsS, vcpusS, rowS, castL, Option.bind_some, Option.map_some, Option.some.injEq, Nat.beq_refl, beq_self_eq_true, Bool.and_self, cond_true, cond_false, eq_self, beq_iff_eq, beq_eq_false_iff_ne, bne_iff_ne, bne_eq_false_iff_eq, ne_eq, decide_eq_true_eq, decide_eq_false_iff_not, ble_true, ble_false, inRange_iff, inRange_false]
  repeat' (first | refine drop_ok ?_ | intro _ | with_reducible apply And.intro)
  all_goals first | trivial | omega | (simp_all; done)
  
theorem c_fetch_Fetch : SpecOk EB_2 45 S_fetch_Fetch := spec_sig ok_fetch_Fetch (n := 60) fun ⟨m, ⟨⟩⟩ h hok => a_fetch_Fetch m (ok_mach (okSL_head hok))
end

/-! bits_low64 -/

def S_bits_low64 : Spec := sig [.i .u64, .i .i64] [.i .u64] (fun (w, n, _) => w % K.pow n) (pre := fun (w, n, _) => decide (0 ≤ n ∧ n ≤ 63))
noncomputable def E_bits_low64 : Env := EB.adds []

theorem ok_bits_low64 : EnvOk E_bits_low64 := okEB.adds (l := _) trivial
theorem t_bits_low64 (w : Int) (n : Int) : evF E_bits_low64 60 120 (encArgs [.i .u64, .i .i64] (w, n, ())) = bif (decide ((0 : Int) ≤ (IntKind.wrap IntKind.u64 n))) then (Tree.leaf (SV.v (Value.int IntKind.u64 (andI IntKind.u64 w (IntKind.wrap IntKind.u64 ((IntKind.wrap IntKind.u64 ((1 : Int) * ((2 : Int) ^ (if ((Int.toNat (IntKind.wrap IntKind.u64 n)) ≤ 64) then (Int.toNat (IntKind.wrap IntKind.u64 n)) else 64)))) - (1 : Int))))))) else (Tree.fail) := by kernel_rfl
section
attribute [local irreducible] evF evFL evFLs evFP
theorem a_bits_low64 (w : Int) (n : Int) (hpre : 0 ≤ n ∧ n ≤ 63) (ok_w : okI .u64 w) (ok_n : okI .i64 n) : (evF E_bits_low64 60 120 (encArgs [.i .u64, .i .i64] (w, n, ()))).ends fun out_ => decO [.i .u64] out_ = some (w % K.pow n) := by
  rw [t_bits_low64, Tree.ends_holds]
  obtain ⟨w0, w1⟩ := okI_u64 ok_w
  obtain ⟨n, rfl⟩ := Int.eq_ofNat_of_zero_le hpre.1
  have h63 := pow63 (j := n) (by omega)
  have hp := Nat.two_pow_pos n
  have e1 : IntKind.u64.wrap (n : Int) = (n : Int) := by rw [wrap64]; omega
  have e2 : (if n ≤ 64 then n else 64) = n := if_pos (by omega)
  have e3 : andI .u64 w (IntKind.u64.wrap (IntKind.u64.wrap (1 * 2 ^ (if n ≤ 64 then n else 64)) - 1)) = w % K.pow (n : Int) := by
    have : IntKind.u64.wrap (IntKind.u64.wrap (1 * 2 ^ (if n ≤ 64 then n else 64)) - 1) = ((2 ^ n - 1 : Nat) : Int) := by
      rw [e2, wrap64, wrap64, show (1 : Int) * 2 ^ n = ((2 ^ n : Nat) : Int) by simp]; omega
    rw [this, and_low64 n (by omega) w0 w1]; rfl
  simp only [Tree.holds_loop, Tree.holds_fork, Tree.holds_next, if_true, Tree.holds_cond, Tree.holds_letv, Tree.holds_leaf, Tree.holds_fail, decO, decA, decTup, decMach, decCore, decTrap, decInstr, decPart, decGuest, decConf, decEvent, decVcpu, decStep, bytesS, boolS, eventsS, intsS, guestsS, vcpusS, rowS, castL, Option.bind_some, Option.map_some, Option.some.injEq, Nat.beq_refl, beq_self_eq_true, Bool.and_self, cond_true, cond_false, eq_self, e1, Int.toNat_natCast, e3]
  simp
  
theorem c_bits_low64 : SpecOk EB 120 S_bits_low64 := spec_sig ok_bits_low64 (n := 60) fun ⟨w, n, ⟨⟩⟩ h hok => a_bits_low64 w n (of_decide_eq_true h) (ok_int (okSL_head hok)) (ok_int (okSL_head (okSL_tail hok)))
end

/-! bits_Extract -/

def S_bits_Extract : Spec := sig [.i .u32, .i .i64, .i .i64] [.i .u32] (fun (w, at_, n, _) => K.field w at_ n) (pre := fun (w, at_, n, _) => decide (0 ≤ at_ ∧ at_ ≤ 63 ∧ 0 ≤ n ∧ n ≤ 63))
noncomputable def E_bits_Extract : Env := EB.adds [(120, S_bits_low64)]

theorem ok_bits_Extract : EnvOk E_bits_Extract := okEB.adds (l := _) ⟨c_bits_low64, trivial⟩
theorem t_bits_Extract (w : Int) (at_ : Int) (n : Int) : evF E_bits_Extract 60 85 (encArgs [.i .u32, .i .i64, .i .i64] (w, at_, n, ())) = bif (decide ((0 : Int) ≤ (IntKind.wrap IntKind.u64 at_))) then (bif (decide (And ((0 : Int) ≤ n) (n ≤ (63 : Int)))) then (Tree.letv (okO [(AT.i IntKind.u64)]) ((Int.fdiv (IntKind.wrap IntKind.u64 w) ((2 : Int) ^ (if ((Int.toNat (IntKind.wrap IntKind.u64 at_)) ≤ 64) then (Int.toNat (IntKind.wrap IntKind.u64 at_)) else 64))) % (K.pow n)) fun x0 => (Tree.leaf (SV.v (Value.int IntKind.u32 (IntKind.wrap IntKind.u32 x0))))) else (Tree.fail)) else (Tree.fail) := by kernel_rfl
section
attribute [local irreducible] evF evFL evFLs evFP
theorem a_bits_Extract (w : Int) (at_ : Int) (n : Int) (hpre : 0 ≤ at_ ∧ at_ ≤ 63 ∧ 0 ≤ n ∧ n ≤ 63) (ok_w : okI .u32 w) (ok_at_ : okI .i64 at_) (ok_n : okI .i64 n) : (evF E_bits_Extract 60 85 (encArgs [.i .u32, .i .i64, .i .i64] (w, at_, n, ()))).ends fun out_ => decO [.i .u32] out_ = some (K.field w at_ n) := by
  rw [t_bits_Extract, Tree.ends_holds]
  obtain ⟨w0, w1⟩ := okI_u32 ok_w
  obtain ⟨at_, rfl⟩ := Int.eq_ofNat_of_zero_le hpre.1
  have p1 := K.pow_pos (at_ : Int)
  have p2 := K.pow_pos n
  have q1 : w / K.pow at_ ≤ w := Int.ediv_le_self _ w0
  have q0 : 0 ≤ w / K.pow at_ := Int.ediv_nonneg w0 (by omega)
  have q2 := Int.emod_nonneg (w / K.pow at_) (show K.pow n ≠ 0 by omega)
  have q3 : w / K.pow at_ % K.pow n ≤ w / K.pow at_ := emod_le q0 p2
  have e0 : IntKind.u64.wrap (at_ : Int) = (at_ : Int) := by rw [wrap64]; omega
  have e1 : IntKind.u64.wrap w = w := by rw [wrap64]; omega
  have e2 : Int.fdiv w (2 ^ (if at_ ≤ 64 then at_ else 64)) = w / K.pow at_ := by
    rw [if_pos (by omega), Int.fdiv_eq_ediv_of_nonneg _ (by exact Int.le_of_lt (Int.pow_pos (by omega)))]
    congr 1 <;> simp [K.pow]
  have e5 : IntKind.u32.wrap (w / K.pow at_ % K.pow n) = w / K.pow at_ % K.pow n := by rw [wrap32]; omega
  have e6 : decide (0 ≤ n ∧ n ≤ 63) = true := decide_eq_true ⟨hpre.2.2.1, hpre.2.2.2⟩
  simp only [Tree.holds_loop, Tree.holds_fork, Tree.holds_next, if_true, Tree.holds_cond, Tree.holds_letv, Tree.holds_leaf, Tree.holds_fail, decO, decA, decTup, decMach, decCore, decTrap, decInstr, decPart, decGuest, decConf, decEvent, decVcpu, decStep, bytesS, boolS, eventsS, intsS, guestsS, vcpusS, rowS, castL, Option.bind_some, Option.map_some, Option.some.injEq, Nat.beq_refl, beq_self_eq_true, Bool.and_self, cond_true, cond_false, eq_self, e0, e1, Int.toNat_natCast, e2, e5, e6, K.field]
  first | done | simp
  
theorem c_bits_Extract : SpecOk EB 85 S_bits_Extract := spec_sig ok_bits_Extract (n := 60) fun ⟨w, at_, n, ⟨⟩⟩ h hok => a_bits_Extract w at_ n (of_decide_eq_true h) (ok_int (okSL_head hok)) (ok_int (okSL_head (okSL_tail hok))) (ok_int (okSL_head (okSL_tail (okSL_tail hok))))
end

/-! isa_FormatOf -/

def S_isa_FormatOf : Spec := sig [.i .i64] [.i .i64] (fun (op, _) => K.form op)
noncomputable def E_isa_FormatOf : Env := EB_1.adds []

theorem ok_isa_FormatOf : EnvOk E_isa_FormatOf := okEB_1.adds (l := _) trivial
theorem t_isa_FormatOf (op : Int) : evF E_isa_FormatOf 60 82 (encArgs [.i .i64] (op, ())) = bif (decide (op < (0 : Int))) then (Tree.leaf (SV.v (Value.int IntKind.i64 (0 : Int)))) else (bif (decide (op ≥ (26 : Int))) then (Tree.leaf (SV.v (Value.int IntKind.i64 (0 : Int)))) else (bif (inRange op 26) then (Tree.leaf (SV.v (Value.int IntKind.i64 (List.getD [(0 : Int), (1 : Int), (1 : Int), (1 : Int), (1 : Int), (1 : Int), (1 : Int), (1 : Int), (1 : Int), (2 : Int), (3 : Int), (2 : Int), (2 : Int), (2 : Int), (2 : Int), (2 : Int), (2 : Int), (2 : Int), (3 : Int), (2 : Int), (4 : Int), (5 : Int), (6 : Int), (4 : Int), (4 : Int), (7 : Int)] ((Int.toNat op)) (0 : Int))))) else (Tree.fail))) := by kernel_rfl
section
attribute [local irreducible] evF evFL evFLs evFP
theorem a_isa_FormatOf (op : Int) (ok_op : okI .i64 op) : (evF E_isa_FormatOf 60 82 (encArgs [.i .i64] (op, ()))).ends fun out_ => decO [.i .i64] out_ = some (K.form op) := by
  rw [t_isa_FormatOf, Tree.ends_holds]
  simp only [Tree.holds_loop, Tree.holds_fork, Tree.holds_next, if_true, Tree.holds_cond, Tree.holds_letv, Tree.holds_leaf, Tree.holds_fail, decO, decA, decTup, decMach, decCore, decTrap, decInstr, decPart, decGuest, decConf, decEvent, decVcpu, decStep, bytesS, boolS, eventsS, intsS, guestsS, vcpusS, rowS, castL, Option.bind_some, Option.map_some, Option.some.injEq, Nat.beq_refl, beq_self_eq_true, Bool.and_self, cond_true, cond_false, eq_self, beq_iff_eq, beq_eq_false_iff_ne, bne_iff_ne, bne_eq_false_iff_eq, ne_eq, decide_eq_true_eq, decide_eq_false_iff_not, ble_true, ble_false, inRange_iff, inRange_false]
  have out : (op < 0 ∨ 26 ≤ op) → K.form op = 0 := fun h => by unfold K.form; (repeat' split) <;> first | rfl | omega
  have inn : 0 ≤ op → op < 26 → [0, 1, 1, 1, 1, 1, 1, 1, 1, 2, 3, 2, 2, 2, 2, 2, 2, 2, 3, 2, 4, 5, 6, 4, 4, 7].getD op.toNat (0 : Int) = K.form op := fun h0 h1 => by
    rcases op_cases op with ⟨m, rfl⟩ | ⟨m, rfl⟩ | rfl | rfl | rfl | rfl | rfl | rfl | rfl | rfl | rfl | rfl | rfl | rfl | rfl | rfl | rfl | rfl | rfl | rfl | rfl | rfl | rfl | rfl | rfl | rfl | rfl | rfl 
    · exact absurd h0 (by simp)
    · exact absurd h1 (by simp; omega)
    all_goals rfl
  repeat' (first | refine drop_ok ?_ | intro _ | with_reducible apply And.intro)
  all_goals first | (rw [out (by omega)]; done) | (rw [inn (by omega) (by omega)]; done) | omega
  
theorem c_isa_FormatOf : SpecOk EB_1 82 S_isa_FormatOf := spec_sig ok_isa_FormatOf (n := 60) fun ⟨op, ⟨⟩⟩ h hok => a_isa_FormatOf op (ok_int (okSL_head hok))
end

/-! bits_SignExtend -/

def S_bits_SignExtend : Spec := sig [.i .u32, .i .i64] [.i .i32] (fun (v, n, _) => K.sext v) (pre := fun (v, n, _) => decide (n = 18))
noncomputable def E_bits_SignExtend : Env := EB.adds []

theorem ok_bits_SignExtend : EnvOk E_bits_SignExtend := okEB.adds (l := _) trivial
theorem t_bits_SignExtend (v : Int) (n : Int) : evF E_bits_SignExtend 60 86 (encArgs [.i .u32, .i .i64] (v, n, ())) = bif (decide ((0 : Int) ≤ (IntKind.wrap IntKind.u64 (IntKind.wrap IntKind.i64 ((32 : Int) - n))))) then (bif (decide ((0 : Int) ≤ (IntKind.wrap IntKind.u64 (IntKind.wrap IntKind.i64 ((32 : Int) - n))))) then (Tree.leaf (SV.v (Value.int IntKind.i32 (Int.fdiv (IntKind.wrap IntKind.i32 (IntKind.wrap IntKind.u32 (v * ((2 : Int) ^ (if ((Int.toNat (IntKind.wrap IntKind.u64 (IntKind.wrap IntKind.i64 ((32 : Int) - n)))) ≤ 32) then (Int.toNat (IntKind.wrap IntKind.u64 (IntKind.wrap IntKind.i64 ((32 : Int) - n)))) else 32))))) ((2 : Int) ^ (if ((Int.toNat (IntKind.wrap IntKind.u64 (IntKind.wrap IntKind.i64 ((32 : Int) - n)))) ≤ 32) then (Int.toNat (IntKind.wrap IntKind.u64 (IntKind.wrap IntKind.i64 ((32 : Int) - n)))) else 32)))))) else (Tree.fail)) else (Tree.fail) := by kernel_rfl
section
attribute [local irreducible] evF evFL evFLs evFP
theorem a_bits_SignExtend (v : Int) (n : Int) (hpre : n = 18) (ok_v : okI .u32 v) (ok_n : okI .i64 n) : (evF E_bits_SignExtend 60 86 (encArgs [.i .u32, .i .i64] (v, n, ()))).ends fun out_ => decO [.i .i32] out_ = some (K.sext v) := by
  rw [t_bits_SignExtend, Tree.ends_holds]
  obtain ⟨v0, v1⟩ := okI_u32 ok_v
  subst hpre
  have e0 : IntKind.u64.wrap (IntKind.i64.wrap (32 - 18)) = 14 := by decide
  have e1 : (if (14 : Int).toNat ≤ 32 then (14 : Int).toNat else 32) = 14 := rfl
  have e2 : (IntKind.i32.wrap (IntKind.u32.wrap (v * 2 ^ 14))).fdiv (2 ^ 14) = K.sext v := by
    rw [Int.fdiv_eq_ediv_of_nonneg _ (by decide), wrap32]
    simp only [IntKind.wrap, IntKind.bits, IntKind.signed, Bool.true_and, decide_eq_true_eq, Nat.reduceSub, Int.reducePow, ge_iff_le]
    unfold K.sext
    (repeat' split) <;> omega
  simp only [Tree.holds_loop, Tree.holds_fork, Tree.holds_next, if_true, Tree.holds_cond, Tree.holds_letv, Tree.holds_leaf, Tree.holds_fail, decO, decA, decTup, decMach, decCore, decTrap, decInstr, decPart, decGuest, decConf, decEvent, decVcpu, decStep, bytesS, boolS, eventsS, intsS, guestsS, vcpusS, rowS, castL, Option.bind_some, Option.map_some, Option.some.injEq, Nat.beq_refl, beq_self_eq_true, Bool.and_self, cond_true, cond_false, eq_self, e0, e1, e2]
  decide
  
theorem c_bits_SignExtend : SpecOk EB 86 S_bits_SignExtend := spec_sig ok_bits_SignExtend (n := 60) fun ⟨v, n, ⟨⟩⟩ h hok => a_bits_SignExtend v n (of_decide_eq_true h) (ok_int (okSL_head hok)) (ok_int (okSL_head (okSL_tail hok)))
end

/-! bits_FitsSigned -/

def S_bits_FitsSigned : Spec := sig [.i .i32, .i .i64] [.b] (fun (v, n, _) => decide (-131072 ≤ v) && decide (v < 131072)) (pre := fun (v, n, _) => decide (n = 18))
noncomputable def E_bits_FitsSigned : Env := EB.adds [(86, S_bits_SignExtend)]

theorem ok_bits_FitsSigned : EnvOk E_bits_FitsSigned := okEB.adds (l := _) ⟨c_bits_SignExtend, trivial⟩
theorem t_bits_FitsSigned (v : Int) (n : Int) : evF E_bits_FitsSigned 60 142 (encArgs [.i .i32, .i .i64] (v, n, ())) = bif (decide (n = (18 : Int))) then (Tree.letv (okO [(AT.i IntKind.i32)]) (K.sext (IntKind.wrap IntKind.u32 v)) fun x0 => (bif (BEq.beq x0 v) then (Tree.leaf (SV.b true)) else (Tree.leaf (SV.b false)))) else (Tree.fail) := by kernel_rfl
section
attribute [local irreducible] evF evFL evFLs evFP
theorem a_bits_FitsSigned (v : Int) (n : Int) (hpre : n = 18) (ok_v : okI .i32 v) (ok_n : okI .i64 n) : (evF E_bits_FitsSigned 60 142 (encArgs [.i .i32, .i .i64] (v, n, ()))).ends fun out_ => decO [.b] out_ = some (decide (-131072 ≤ v) && decide (v < 131072)) := by
  rw [t_bits_FitsSigned, Tree.ends_holds]
  obtain ⟨v0, v1⟩ := okI_i32 ok_v
  subst hpre
  simp only [Tree.holds_loop, Tree.holds_fork, Tree.holds_next, if_true, Tree.holds_cond, Tree.holds_letv, Tree.holds_leaf, Tree.holds_fail, decO, decA, decTup, decMach, decCore, decTrap, decInstr, decPart, decGuest, decConf, decEvent, decVcpu, decStep, bytesS, boolS, eventsS, intsS, guestsS, vcpusS, rowS, castL, Option.bind_some, Option.map_some, Option.some.injEq, Nat.beq_refl, beq_self_eq_true, Bool.and_self, cond_true, cond_false, eq_self, beq_iff_eq, beq_eq_false_iff_ne, bne_iff_ne, bne_eq_false_iff_eq, ne_eq, decide_eq_true_eq, decide_eq_false_iff_not, ble_true, ble_false, inRange_iff, inRange_false]
  have key : (K.sext (IntKind.u32.wrap v) = v) ↔ (-131072 ≤ v ∧ v < 131072) := by
    rw [wrap32]; unfold K.sext; split <;> omega
  simp only [key]
  repeat' (first | refine drop_ok ?_ | intro _ | with_reducible apply And.intro)
  all_goals simp_all
  
theorem c_bits_FitsSigned : SpecOk EB 142 S_bits_FitsSigned := spec_sig ok_bits_FitsSigned (n := 60) fun ⟨v, n, ⟨⟩⟩ h hok => a_bits_FitsSigned v n (of_decide_eq_true h) (ok_int (okSL_head hok)) (ok_int (okSL_head (okSL_tail hok)))
end

/-! isa_register -/

def S_isa_register : Spec := sig [.i .i64, .b] [.b] (fun (n, has, _) => K.regOk n has)
noncomputable def E_isa_register : Env := EB.adds []

theorem ok_isa_register : EnvOk E_isa_register := okEB.adds (l := _) trivial
theorem t_isa_register (n : Int) (has : Bool) : evF E_isa_register 60 143 (encArgs [.i .i64, .b] (n, has, ())) = bif (BEq.beq n (0 : Int)) then (Tree.leaf (SV.b true)) else (bif has then (bif (decide (n > (0 : Int))) then (bif (decide (n < (16 : Int))) then (Tree.leaf (SV.b true)) else (Tree.leaf (SV.b false))) else (Tree.leaf (SV.b false))) else (Tree.leaf (SV.b false))) := by kernel_rfl
section
attribute [local irreducible] evF evFL evFLs evFP
theorem a_isa_register (n : Int) (has : Bool) (ok_n : okI .i64 n) (ok_has : okS (encA (.b) has)) : (evF E_isa_register 60 143 (encArgs [.i .i64, .b] (n, has, ()))).ends fun out_ => decO [.b] out_ = some (K.regOk n has) := by
  rw [t_isa_register, Tree.ends_holds]
  simp only [Tree.holds_loop, Tree.holds_fork, Tree.holds_next, if_true, Tree.holds_cond, Tree.holds_letv, Tree.holds_leaf, Tree.holds_fail, decO, decA, decTup, decMach, decCore, decTrap, decInstr, decPart, decGuest, decConf, decEvent, decVcpu, decStep, bytesS, boolS, eventsS, intsS, guestsS, vcpusS, rowS, castL, Option.bind_some, Option.map_some, Option.some.injEq, Nat.beq_refl, beq_self_eq_true, Bool.and_self, cond_true, cond_false, eq_self, beq_iff_eq, beq_eq_false_iff_ne, bne_iff_ne, bne_eq_false_iff_eq, ne_eq, decide_eq_true_eq, decide_eq_false_iff_not, ble_true, ble_false, inRange_iff, inRange_false, K.regOk]
  repeat' (first | refine drop_ok ?_ | intro _ | with_reducible apply And.intro)
  all_goals (simp_all; try omega)
  
theorem c_isa_register : SpecOk EB 143 S_isa_register := spec_sig ok_isa_register (n := 60) fun ⟨n, has, ⟨⟩⟩ h hok => a_isa_register n has (ok_int (okSL_head hok)) (okSL_head (okSL_tail hok))
end

/-! isa_Valid -/

def S_isa_Valid : Spec := sig [.instr] [.b] (fun (i, _) => K.may i)
noncomputable def E_isa_Valid : Env := EB_0_1.adds [(82, S_isa_FormatOf), (142, S_bits_FitsSigned), (143, S_isa_register)]

theorem ok_isa_Valid : EnvOk E_isa_Valid := okEB_0_1.adds (l := _) ⟨(up_1_to_0_1 c_isa_FormatOf), (up_to_0_1 c_bits_FitsSigned), (up_to_0_1 c_isa_register), trivial⟩
theorem t_isa_Valid (i : PInstr) : evF E_isa_Valid 60 121 (encArgs [.instr] (i, ())) = Tree.letv (okO [(AT.i IntKind.i64)]) (K.form i.op) fun x0 => (bif (BEq.beq x0 (0 : Int)) then (Tree.leaf (SV.b false)) else (bif (inRange x0 8) then (bif (BEq.beq x0 (0 : Int)) then (bif (BEq.beq i.imm (0 : Int)) then (Tree.letv (okO [AT.b]) (K.regOk i.rd false) fun x1 => (bif x1 then (Tree.letv (okO [AT.b]) (K.regOk i.ra false) fun x2 => (bif x2 then (Tree.letv (okO [AT.b]) (K.regOk i.rb false) fun x3 => (bif x3 then (Tree.leaf (SV.b true)) else (Tree.leaf (SV.b false)))) else (Tree.leaf (SV.b false)))) else (Tree.leaf (SV.b false)))) else (Tree.leaf (SV.b false))) else (bif (BEq.beq x0 (1 : Int)) then (bif (BEq.beq i.imm (0 : Int)) then (Tree.letv (okO [AT.b]) (K.regOk i.rd true) fun x1 => (bif x1 then (Tree.letv (okO [AT.b]) (K.regOk i.ra true) fun x2 => (bif x2 then (Tree.letv (okO [AT.b]) (K.regOk i.rb true) fun x3 => (bif x3 then (Tree.leaf (SV.b true)) else (Tree.leaf (SV.b false)))) else (Tree.leaf (SV.b false)))) else (Tree.leaf (SV.b false)))) else (Tree.leaf (SV.b false))) else (bif (BEq.beq x0 (2 : Int)) then (bif (BEq.beq i.imm (0 : Int)) then (Tree.letv (okO [AT.b]) (K.regOk i.rd true) fun x1 => (bif x1 then (Tree.letv (okO [AT.b]) (K.regOk i.ra true) fun x2 => (bif x2 then (Tree.letv (okO [AT.b]) (K.regOk i.rb false) fun x3 => (bif x3 then (Tree.leaf (SV.b true)) else (Tree.leaf (SV.b false)))) else (Tree.leaf (SV.b false)))) else (Tree.leaf (SV.b false)))) else (Tree.letv
 (okO [AT.b]) (Bool.and (decide ((-131072 : Int) ≤ i.imm)) (decide (i.imm < (131072 : Int)))) fun x1 => (bif x1 then (Tree.letv (okO [AT.b]) (K.regOk i.rd true) fun x2 => (bif x2 then (Tree.letv (okO [AT.b]) (K.regOk i.ra true) fun x3 => (bif x3 then (Tree.letv (okO [AT.b]) (K.regOk i.rb false) fun x4 => (bif x4 then (Tree.leaf (SV.b true)) else (Tree.leaf (SV.b false)))) else (Tree.leaf (SV.b false)))) else (Tree.leaf (SV.b false)))) else (Tree.leaf (SV.b false))))) else (bif (BEq.beq x0 (3 : Int)) then (bif (BEq.beq i.imm (0 : Int)) then (Tree.letv (okO [AT.b]) (K.regOk i.rd true) fun x1 => (bif x1 then (Tree.letv (okO [AT.b]) (K.regOk i.ra false) fun x2 => (bif x2 then (Tree.letv (okO [AT.b]) (K.regOk i.rb false) fun x3 => (bif x3 then (Tree.leaf (SV.b true)) else (Tree.leaf (SV.b false)))) else (Tree.leaf (SV.b false)))) else (Tree.leaf (SV.b false)))) else (Tree.letv (okO [AT.b]) (Bool.and (decide ((-131072 : Int) ≤ i.imm)) (decide (i.imm < (131072 : Int)))) fun x1 => (bif x1 then (Tree.letv (okO [AT.b]) (K.regOk i.rd true) fun x2 => (bif x2 then (Tree.letv (okO [AT.b]) (K.regOk i.ra false) fun x3 => (bif x3 then (Tree.letv (okO [AT.b]) (K.regOk i.rb false) fun x4 => (bif x4 then (Tree.leaf (SV.b true)) else (Tree.leaf (SV.b false)))) else (Tree.leaf (SV.b false)))) else (Tree.leaf (SV.b false)))) else (Tree.leaf (SV.b false))))) else (bif (BEq.beq x0 (4 : Int)) then (bif (BEq.beq i.imm (0 : Int)) then (Tree.letv (okO [AT.b]) (K.regOk i.rd false) fun x1 => (bif x1 then
 (Tree.letv (okO [AT.b]) (K.regOk i.ra false) fun x2 => (bif x2 then (Tree.letv (okO [AT.b]) (K.regOk i.rb false) fun x3 => (bif x3 then (Tree.leaf (SV.b true)) else (Tree.leaf (SV.b false)))) else (Tree.leaf (SV.b false)))) else (Tree.leaf (SV.b false)))) else (Tree.leaf (SV.b false))) else (bif (BEq.beq x0 (5 : Int)) then (bif (BEq.beq i.imm (0 : Int)) then (Tree.letv (okO [AT.b]) (K.regOk i.rd true) fun x1 => (bif x1 then (Tree.letv (okO [AT.b]) (K.regOk i.ra false) fun x2 => (bif x2 then (Tree.letv (okO [AT.b]) (K.regOk i.rb false) fun x3 => (bif x3 then (Tree.leaf (SV.b true)) else (Tree.leaf (SV.b false)))) else (Tree.leaf (SV.b false)))) else (Tree.leaf (SV.b false)))) else (bif (decide (i.imm > (0 : Int))) then (bif (decide (i.imm < (12 : Int))) then (Tree.letv (okO [AT.b]) (K.regOk i.rd true) fun x1 => (bif x1 then (Tree.letv (okO [AT.b]) (K.regOk i.ra false) fun x2 => (bif x2 then (Tree.letv (okO [AT.b]) (K.regOk i.rb false) fun x3 => (bif x3 then (Tree.leaf (SV.b true)) else (Tree.leaf (SV.b false)))) else (Tree.leaf (SV.b false)))) else (Tree.leaf (SV.b false)))) else (Tree.leaf (SV.b false))) else (Tree.leaf (SV.b false)))) else (bif (BEq.beq x0 (6 : Int)) then (bif (BEq.beq i.imm (0 : Int)) then (Tree.letv (okO [AT.b]) (K.regOk i.rd false) fun x1 => (bif x1 then (Tree.letv (okO [AT.b]) (K.regOk i.ra true) fun x2 => (bif x2 then (Tree.letv (okO [AT.b]) (K.regOk i.rb false) fun x3 => (bif x3 then (Tree.leaf (SV.b true)) else (Tree.leaf (SV.b false)))) else
 (Tree.leaf (SV.b false)))) else (Tree.leaf (SV.b false)))) else (bif (decide (i.imm > (0 : Int))) then (bif (decide (i.imm < (12 : Int))) then (Tree.letv (okO [AT.b]) (K.regOk i.rd false) fun x1 => (bif x1 then (Tree.letv (okO [AT.b]) (K.regOk i.ra true) fun x2 => (bif x2 then (Tree.letv (okO [AT.b]) (K.regOk i.rb false) fun x3 => (bif x3 then (Tree.leaf (SV.b true)) else (Tree.leaf (SV.b false)))) else (Tree.leaf (SV.b false)))) else (Tree.leaf (SV.b false)))) else (Tree.leaf (SV.b false))) else (Tree.leaf (SV.b false)))) else (bif (BEq.beq x0 (7 : Int)) then (bif (BEq.beq i.imm (0 : Int)) then (Tree.letv (okO [AT.b]) (K.regOk i.rd false) fun x1 => (bif x1 then (Tree.letv (okO [AT.b]) (K.regOk i.ra true) fun x2 => (bif x2 then (Tree.letv (okO [AT.b]) (K.regOk i.rb false) fun x3 => (bif x3 then (Tree.leaf (SV.b true)) else (Tree.leaf (SV.b false)))) else (Tree.leaf (SV.b false)))) else (Tree.leaf (SV.b false)))) else (Tree.leaf (SV.b false))) else (Tree.fail))))))))) else (Tree.fail))) := by kernel_rfl
section
attribute [local irreducible] evF evFL evFLs evFP
theorem a_isa_Valid (i : PInstr) (ok_i : okInstr i) : (evF E_isa_Valid 60 121 (encArgs [.instr] (i, ()))).ends fun out_ => decO [.b] out_ = some (K.may i) := by
  rw [t_isa_Valid, Tree.ends_holds]
  simp only [Tree.holds_loop, Tree.holds_fork, Tree.holds_next, if_true, Tree.holds_cond, Tree.holds_letv, Tree.holds_leaf, Tree.holds_fail, decO, decA, decTup, decMach, decCore, decTrap, decInstr, decPart, decGuest, decConf, decEvent, decVcpu, decStep, bytesS, boolS, eventsS, intsS, guestsS, vcpusS, rowS, castL, Option.bind_some, Option.map_some, Option.some.injEq, Nat.beq_refl, beq_self_eq_true, Bool.and_self, cond_true, cond_false, eq_self, beq_iff_eq, beq_eq_false_iff_ne, bne_iff_ne, bne_eq_false_iff_eq, ne_eq, decide_eq_true_eq, decide_eq_false_iff_not, ble_true, ble_false, inRange_iff, inRange_false]
  unfold K.may
  have hf := form_range i.op
  dsimp only
  generalize K.form i.op = f at *
  clear ok_i
  rcases hf with rfl | rfl | rfl | rfl | rfl | rfl | rfl | rfl
  all_goals simp
  all_goals
    repeat' (first | refine drop_ok ?_ | intro _ | with_reducible apply And.intro)
    all_goals first | omega | (simp_all; done) | (simp_all; omega) | grind
  
theorem c_isa_Valid : SpecOk EB_0_1 121 S_isa_Valid := spec_sig ok_isa_Valid (n := 60) fun ⟨i, ⟨⟩⟩ h hok => a_isa_Valid i (ok_instr (okSL_head hok))
end

/-! bits_Insert -/

def S_bits_Insert : Spec := sig [.i .u32, .i .i64, .i .i64, .i .u32] [.i .u32] (fun (w, at_, n, v, _) => K.bput w at_ n v) (pre := fun (w, at_, n, v, _) => decide (0 ≤ at_ ∧ 0 ≤ n ∧ at_ + n ≤ 32))
noncomputable def E_bits_Insert : Env := EB.adds [(120, S_bits_low64)]

theorem ok_bits_Insert : EnvOk E_bits_Insert := okEB.adds (l := _) ⟨c_bits_low64, trivial⟩
theorem t_bits_Insert (w : Int) (at_ : Int) (n : Int) (v : Int) : evF E_bits_Insert 60 122 (encArgs [.i .u32, .i .i64, .i .i64, .i .u32] (w, at_, n, v, ())) = bif (decide (And ((0 : Int) ≤ n) (n ≤ (63 : Int)))) then (Tree.letv (okO [(AT.i IntKind.u64)]) ((18446744073709551615 : Int) % (K.pow n)) fun x0 => (bif (decide ((0 : Int) ≤ (IntKind.wrap IntKind.u64 at_))) then (bif (decide (And ((0 : Int) ≤ n) (n ≤ (63 : Int)))) then (Tree.letv (okO [(AT.i IntKind.u64)]) ((IntKind.wrap IntKind.u64 v) % (K.pow n)) fun x1 => (bif (decide ((0 : Int) ≤ (IntKind.wrap IntKind.u64 at_))) then (Tree.leaf (SV.v (Value.int IntKind.u32 (orI IntKind.u32 (andNotI IntKind.u32 w (IntKind.wrap IntKind.u32 ((IntKind.wrap IntKind.u32 x0) * ((2 : Int) ^ (if ((Int.toNat (IntKind.wrap IntKind.u64 at_)) ≤ 32) then (Int.toNat (IntKind.wrap IntKind.u64 at_)) else 32))))) (IntKind.wrap IntKind.u32 ((IntKind.wrap IntKind.u32 x1) * ((2 : Int) ^ (if ((Int.toNat (IntKind.wrap IntKind.u64 at_)) ≤ 32) then (Int.toNat (IntKind.wrap IntKind.u64 at_)) else 32)))))))) else (Tree.fail))) else (Tree.fail)) else (Tree.fail))) else (Tree.fail) := by kernel_rfl
section
attribute [local irreducible] evF evFL evFLs evFP
theorem a_bits_Insert (w : Int) (at_ : Int) (n : Int) (v : Int) (hpre : 0 ≤ at_ ∧ 0 ≤ n ∧ at_ + n ≤ 32) (ok_w : okI .u32 w) (ok_at_ : okI .i64 at_) (ok_n : okI .i64 n) (ok_v : okI .u32 v) : (evF E_bits_Insert 60 122 (encArgs [.i .u32, .i .i64, .i .i64, .i .u32] (w, at_, n, v, ()))).ends fun out_ => decO [.i .u32] out_ = some (K.bput w at_ n v) := by
  rw [t_bits_Insert, Tree.ends_holds]
  obtain ⟨w0, w1⟩ := okI_u32 ok_w
  obtain ⟨v0, v1⟩ := okI_u32 ok_v
  obtain ⟨w, rfl⟩ := Int.eq_ofNat_of_zero_le w0
  obtain ⟨v, rfl⟩ := Int.eq_ofNat_of_zero_le v0
  obtain ⟨a, rfl⟩ := Int.eq_ofNat_of_zero_le hpre.1
  obtain ⟨n, rfl⟩ := Int.eq_ofNat_of_zero_le hpre.2.1
  have pa := Nat.two_pow_pos a
  have pn := Nat.two_pow_pos n
  have ln := pow_le32 (i := n) (by omega)
  have e0 : IntKind.u64.wrap (a : Int) = (a : Int) := by rw [wrap64]; omega
  have e1 : IntKind.u64.wrap (v : Int) = (v : Int) := by rw [wrap64]; omega
  have e2 : (18446744073709551615 : Int) % K.pow (n : Int) = ((2 ^ n - 1 : Nat) : Int) := by
    have h1 : (18446744073709551615 : Int) % K.pow (n : Int) = ((18446744073709551615 % 2 ^ n : Nat) : Int) := by simp [K.pow]
    rw [h1]; congr 1
    have h2 : (2 : Nat) ^ 64 = 2 ^ (64 - n) * 2 ^ n := by rw [← Nat.pow_add]; congr 1; omega
    have h3 : 0 < 2 ^ (64 - n) := Nat.two_pow_pos _
    have h4 : (18446744073709551615 : Nat) = (2 ^ n - 1) + 2 ^ n * (2 ^ (64 - n) - 1) := by
      rw [Nat.mul_sub, Nat.mul_one, Nat.mul_comm (2 ^ n), ← h2]
      have : 2 ^ n ≤ 2 ^ (64 - n) * 2 ^ n := Nat.le_mul_of_pos_left _ h3
      omega
    rw [h4, Nat.add_mul_mod_self_left, Nat.mod_eq_of_lt (by omega)]
  have hm : (2 ^ n - 1) * 2 ^ a < 4294967296 := by
    have h1 : (2 ^ n - 1) * 2 ^ a < 2 ^ n * 2 ^ a := Nat.mul_lt_mul_of_pos_right (by omega) pa
    rw [← Nat.pow_add] at h1
    have h2 := pow_le32 (i := n + a) (by omega)
    omega
  have hs : v % 2 ^ n * 2 ^ a < 4294967296 := by
    have h1 : v % 2 ^ n * 2 ^ a ≤ (2 ^ n - 1) * 2 ^ a := Nat.mul_le_mul_right _ (by have := Nat.mod_lt v pn; omega)
    omega
  have e3 : ∀ x : Nat, x < 4294967296 → x * 2 ^ a < 4294967296 → IntKind.u32.wrap (IntKind.u32.wrap (x : Int) * 2 ^ (if a ≤ 32 then a else 32)) = ((x * 2 ^ a : Nat) : Int) := fun x hx h => by
    rw [if_pos (by omega), wrap32, wrap32, Int.emod_eq_of_lt (a := (x : Int)) (by omega) (by omega)]
    rw [show (x : Int) * 2 ^ a = ((x * 2 ^ a : Nat) : Int) by simp]
    omega
  have e4 : (v : Int) % K.pow (n : Int) = ((v % 2 ^ n : Nat) : Int) := by simp [K.pow]
  have e5 := e3 (2 ^ n - 1) (by omega) hm
  have e6 := e3 (v % 2 ^ n) (by have := Nat.mod_lt v pn; omega) hs
  have e7 : decide (0 ≤ (n : Int) ∧ (n : Int) ≤ 63) = true := decide_eq_true (by omega)
  have e8 := insert_nat (w := w) (a := a) (n := n) (v := v) (by omega) (by omega) (by omega)
  have e9 : orI .u32 (andNotI .u32 (w : Int) (((2 ^ n - 1) * 2 ^ a : Nat) : Int)) ((v % 2 ^ n * 2 ^ a : Nat) : Int) = K.bput (w : Int) (a : Int) (n : Int) (v : Int) := by
    have hle : w &&& (2 ^ n - 1) * 2 ^ a ≤ w := Nat.and_le_left
    rw [andNot32_nat (by omega) hm, or32_nat (by omega) hs, e8]; rfl
  simp only [Tree.holds_loop, Tree.holds_fork, Tree.holds_next, if_true, Tree.holds_cond, Tree.holds_letv, Tree.holds_leaf, Tree.holds_fail, decO, decA, decTup, decMach, decCore, decTrap, decInstr, decPart, decGuest, decConf, decEvent, decVcpu, decStep, bytesS, boolS, eventsS, intsS, guestsS, vcpusS, rowS, castL, Option.bind_some, Option.map_some, Option.some.injEq, Nat.beq_refl, beq_self_eq_true, Bool.and_self, cond_true, cond_false, eq_self, e0, e1, e2, e4, Int.toNat_natCast, e5, e6, e7, e9]
  simp
  
theorem c_bits_Insert : SpecOk EB 122 S_bits_Insert := spec_sig ok_bits_Insert (n := 60) fun ⟨w, at_, n, v, ⟨⟩⟩ h hok => a_bits_Insert w at_ n v (of_decide_eq_true h) (ok_int (okSL_head hok)) (ok_int (okSL_head (okSL_tail hok))) (ok_int (okSL_head (okSL_tail (okSL_tail hok)))) (ok_int (okSL_head (okSL_tail (okSL_tail (okSL_tail hok)))))
end

/-! bits_LowBits -/

def S_bits_LowBits : Spec := sig [.i .i32, .i .i64] [.i .u32] (fun (v, n, _) => v % 262144) (pre := fun (v, n, _) => decide (n = 18))
noncomputable def E_bits_LowBits : Env := EB.adds [(85, S_bits_Extract)]

theorem ok_bits_LowBits : EnvOk E_bits_LowBits := okEB.adds (l := _) ⟨c_bits_Extract, trivial⟩
theorem t_bits_LowBits (v : Int) (n : Int) : evF E_bits_LowBits 60 123 (encArgs [.i .i32, .i .i64] (v, n, ())) = bif (decide (And ((0 : Int) ≤ (0 : Int)) (And ((0 : Int) ≤ (63 : Int)) (And ((0 : Int) ≤ n) (n ≤ (63 : Int)))))) then (Tree.letv (okO [(AT.i IntKind.u32)]) (K.field (IntKind.wrap IntKind.u32 v) (0 : Int) n) fun x0 => (Tree.leaf (SV.v (Value.int IntKind.u32 x0)))) else (Tree.fail) := by kernel_rfl
section
attribute [local irreducible] evF evFL evFLs evFP
theorem a_bits_LowBits (v : Int) (n : Int) (hpre : n = 18) (ok_v : okI .i32 v) (ok_n : okI .i64 n) : (evF E_bits_LowBits 60 123 (encArgs [.i .i32, .i .i64] (v, n, ()))).ends fun out_ => decO [.i .u32] out_ = some (v % 262144) := by
  rw [t_bits_LowBits, Tree.ends_holds]
  obtain ⟨v0, v1⟩ := okI_i32 ok_v
  subst hpre
  simp only [Tree.holds_loop, Tree.holds_fork, Tree.holds_next, if_true, Tree.holds_cond, Tree.holds_letv, Tree.holds_leaf, Tree.holds_fail, decO, decA, decTup, decMach, decCore, decTrap, decInstr, decPart, decGuest, decConf, decEvent, decVcpu, decStep, bytesS, boolS, eventsS, intsS, guestsS, vcpusS, rowS, castL, Option.bind_some, Option.map_some, Option.some.injEq, Nat.beq_refl, beq_self_eq_true, Bool.and_self, cond_true, cond_false, eq_self, K.field, wrap32]
  have : (v % 4294967296) / K.pow 0 % K.pow 18 = v % 262144 := by simp [K.pow] <;> omega
  rw [this]; simp
  
theorem c_bits_LowBits : SpecOk EB 123 S_bits_LowBits := spec_sig ok_bits_LowBits (n := 60) fun ⟨v, n, ⟨⟩⟩ h hok => a_bits_LowBits v n (of_decide_eq_true h) (ok_int (okSL_head hok)) (ok_int (okSL_head (okSL_tail hok)))
end

/-! isa_Encode -/

def S_isa_Encode : Spec := sig [.instr] [.i .u32, .b] (fun (i, _) => K.encode i)
noncomputable def E_isa_Encode : Env := EB_0_1.adds [(121, S_isa_Valid), (122, S_bits_Insert), (123, S_bits_LowBits)]

theorem ok_isa_Encode : EnvOk E_isa_Encode := okEB_0_1.adds (l := _) ⟨c_isa_Valid, (up_to_0_1 c_bits_Insert), (up_to_0_1 c_bits_LowBits), trivial⟩
theorem t_isa_Encode (i : PInstr) : evF E_isa_Encode 60 87 (encArgs [.instr] (i, ())) = Tree.letv (okO [AT.b]) (K.may i) fun x0 => (bif x0 then (Tree.letv (okO [(AT.i IntKind.u32)]) (i.imm % (262144 : Int)) fun x1 => (Tree.letv (okO [(AT.i IntKind.u32)]) (K.bput (orI IntKind.u32 x1 (IntKind.wrap IntKind.u32 i.rb)) (26 : Int) (6 : Int) (IntKind.wrap IntKind.u32 i.op)) fun x2 => (Tree.letv (okO [(AT.i IntKind.u32)]) (K.bput x2 (22 : Int) (4 : Int) (IntKind.wrap IntKind.u32 i.rd)) fun x3 => (Tree.letv (okO [(AT.i IntKind.u32)]) (K.bput x3 (18 : Int) (4 : Int) (IntKind.wrap IntKind.u32 i.ra)) fun x4 => (Tree.leaf (SV.tup [(SV.v (Value.int IntKind.u32 x4)), (SV.b true)])))))) else (Tree.leaf (SV.tup [(SV.v (Value.int IntKind.u32 (0 : Int))), (SV.b false)]))) := by kernel_rfl
section
attribute [local irreducible] evF evFL evFLs evFP
theorem a_isa_Encode (i : PInstr) (ok_i : okInstr i) : (evF E_isa_Encode 60 87 (encArgs [.instr] (i, ()))).ends fun out_ => decO [.i .u32, .b] out_ = some (K.encode i) := by
  rw [t_isa_Encode, Tree.ends_holds]
  have key : K.may i = true → K.bput (K.bput (K.bput (orI .u32 (i.imm % 262144) (i.rb % 4294967296)) 26 6 (i.op % 4294967296)) 22 4 (i.rd % 4294967296)) 18 4 (i.ra % 4294967296) = K.word i := fun h => by
    have m := K.may_of h
    obtain ⟨⟨a, b⟩, ⟨c, d⟩, ⟨e, f⟩, ⟨g, j⟩, ⟨k, l⟩, one, two⟩ := m
    have hl : orI .u32 (i.imm % 262144) (i.rb % 4294967296) = (if K.form i.op = 1 then i.rb else i.imm % 262144) := by
      split
      · rename_i h1
        rw [one h1]
        obtain ⟨n, hn⟩ := Int.eq_ofNat_of_zero_le g
        rw [hn, show (0 : Int) % 262144 = ((0 : Nat) : Int) from rfl, show (n : Int) % 4294967296 = (n : Int) by omega, or32_nat (by omega) (by omega), Nat.zero_or]
      · rename_i h1
        rw [two h1]
        obtain ⟨n, hn⟩ := Int.eq_ofNat_of_zero_le (show 0 ≤ i.imm % 262144 by omega)
        rw [hn, show (0 : Int) % 4294967296 = ((0 : Nat) : Int) from rfl, or32_nat (by omega) (by omega), Nat.or_zero]
    rw [hl]
    have hr : 0 ≤ (if K.form i.op = 1 then i.rb else i.imm % 262144) ∧ (if K.form i.op = 1 then i.rb else i.imm % 262144) < 262144 := by split <;> omega
    unfold K.word
    generalize (if K.form i.op = 1 then i.rb else i.imm % 262144) = z at *
    have b1 : ∀ x v : Int, K.bput x 26 6 v = ((67108864 * (64 * (x.toNat / 4294967296) + v.toNat % 64) + x.toNat % 67108864 : Nat) : Int) := fun _ _ => rfl
    have b2 : ∀ x v : Int, K.bput x 22 4 v = ((4194304 * (16 * (x.toNat / 67108864) + v.toNat % 16) + x.toNat % 4194304 : Nat) : Int) := fun _ _ => rfl
    have b3 : ∀ x v : Int, K.bput x 18 4 v = ((262144 * (16 * (x.toNat / 4194304) + v.toNat % 16) + x.toNat % 262144 : Nat) : Int) := fun _ _ => rfl
    rw [b1, b2, b3]
    omega
  simp only [Tree.holds_loop, Tree.holds_fork, Tree.holds_next, if_true, Tree.holds_cond, Tree.holds_letv, Tree.holds_leaf, Tree.holds_fail, decO, decA, decTup, decMach, decCore, decTrap, decInstr, decPart, decGuest, decConf, decEvent, decVcpu, decStep, bytesS, boolS, eventsS, intsS, guestsS, vcpusS, rowS, castL, Option.bind_some, Option.map_some, Option.some.injEq, Nat.beq_refl, beq_self_eq_true, Bool.and_self, cond_true, cond_false, eq_self, beq_iff_eq, beq_eq_false_iff_ne, bne_iff_ne, bne_eq_false_iff_eq, ne_eq, decide_eq_true_eq, decide_eq_false_iff_not, ble_true, ble_false, inRange_iff, inRange_false, wrap32]
  unfold K.encode
  repeat' (first | refine drop_ok ?_ | intro _ | with_reducible apply And.intro)
  · rename_i h; rw [key h, if_pos h]
  · rename_i h; rw [if_neg (by simp [h])]
  
theorem c_isa_Encode : SpecOk EB_0_1 87 S_isa_Encode := spec_sig ok_isa_Encode (n := 60) fun ⟨i, ⟨⟩⟩ h hok => a_isa_Encode i (ok_instr (okSL_head hok))
end

/-! isa_Decode -/

def S_isa_Decode : Spec := sig [.i .u32] [.instr, .b] (fun (w, _) => K.decode w)
noncomputable def E_isa_Decode : Env := EB_0_1.adds [(85, S_bits_Extract), (82, S_isa_FormatOf), (86, S_bits_SignExtend), (87, S_isa_Encode)]

theorem ok_isa_Decode : EnvOk E_isa_Decode := okEB_0_1.adds (l := _) ⟨(up_to_0_1 c_bits_Extract), (up_1_to_0_1 c_isa_FormatOf), (up_to_0_1 c_bits_SignExtend), c_isa_Encode, trivial⟩
theorem t_isa_Decode (w : Int) : evF E_isa_Decode 60 46 (encArgs [.i .u32] (w, ())) = Tree.letv (okO [(AT.i IntKind.u32)]) (K.field w (26 : Int) (6 : Int)) fun x0 => (Tree.letv (okO [(AT.i IntKind.u32)]) (K.field w (22 : Int) (4 : Int)) fun x1 => (Tree.letv (okO [(AT.i IntKind.u32)]) (K.field w (18 : Int) (4 : Int)) fun x2 => (Tree.letv (okO [(AT.i IntKind.i64)]) (K.form (IntKind.wrap IntKind.i64 x0)) fun x3 => (bif (inRange x3 8) then (bif (BEq.beq x3 (0 : Int)) then (Tree.letv (okO [(AT.i IntKind.i32)]) (K.sext w) fun x4 => (Tree.letv (okO [(AT.i IntKind.u32), AT.b]) (K.encode (PInstr.mk (IntKind.wrap IntKind.i64 x0) (IntKind.wrap IntKind.i64 x1) (IntKind.wrap IntKind.i64 x2) (0 : Int) x4)) fun x5 => (bif x5.snd then (bif (bne x5.fst w) then (Tree.leaf (SV.tup [(SV.agg [(SV.v (Value.int IntKind.i64 (0 : Int))), (SV.v (Value.int IntKind.i64 (0 : Int))), (SV.v (Value.int IntKind.i64 (0 : Int))), (SV.v (Value.int IntKind.i64 (0 : Int))), (SV.v (Value.int IntKind.i32 (0 : Int)))]), (SV.b false)])) else (Tree.leaf (SV.tup [(SV.agg [(SV.v (Value.int IntKind.i64 (IntKind.wrap IntKind.i64 x0))), (SV.v (Value.int IntKind.i64 (IntKind.wrap IntKind.i64 x1))), (SV.v (Value.int IntKind.i64 (IntKind.wrap IntKind.i64 x2))), (SV.v (Value.int IntKind.i64 (0 : Int))), (SV.v (Value.int IntKind.i32 x4))]), (SV.b true)]))) else (Tree.leaf (SV.tup [(SV.agg [(SV.v (Value.int IntKind.i64 (0 : Int))), (SV.v (Value.int IntKind.i64 (0 : Int))), (SV.v (Value.int IntKind.i64 (0 : Int))), (SV.v
 (Value.int IntKind.i64 (0 : Int))), (SV.v (Value.int IntKind.i32 (0 : Int)))]), (SV.b false)]))))) else (bif (BEq.beq x3 (1 : Int)) then (Tree.letv (okO [(AT.i IntKind.u32)]) (K.field w (0 : Int) (4 : Int)) fun x4 => (Tree.letv (okO [(AT.i IntKind.u32), AT.b]) (K.encode (PInstr.mk (IntKind.wrap IntKind.i64 x0) (IntKind.wrap IntKind.i64 x1) (IntKind.wrap IntKind.i64 x2) (IntKind.wrap IntKind.i64 x4) (0 : Int))) fun x5 => (bif x5.snd then (bif (bne x5.fst w) then (Tree.leaf (SV.tup [(SV.agg [(SV.v (Value.int IntKind.i64 (0 : Int))), (SV.v (Value.int IntKind.i64 (0 : Int))), (SV.v (Value.int IntKind.i64 (0 : Int))), (SV.v (Value.int IntKind.i64 (0 : Int))), (SV.v (Value.int IntKind.i32 (0 : Int)))]), (SV.b false)])) else (Tree.leaf (SV.tup [(SV.agg [(SV.v (Value.int IntKind.i64 (IntKind.wrap IntKind.i64 x0))), (SV.v (Value.int IntKind.i64 (IntKind.wrap IntKind.i64 x1))), (SV.v (Value.int IntKind.i64 (IntKind.wrap IntKind.i64 x2))), (SV.v (Value.int IntKind.i64 (IntKind.wrap IntKind.i64 x4))), (SV.v (Value.int IntKind.i32 (0 : Int)))]), (SV.b true)]))) else (Tree.leaf (SV.tup [(SV.agg [(SV.v (Value.int IntKind.i64 (0 : Int))), (SV.v (Value.int IntKind.i64 (0 : Int))), (SV.v (Value.int IntKind.i64 (0 : Int))), (SV.v (Value.int IntKind.i64 (0 : Int))), (SV.v (Value.int IntKind.i32 (0 : Int)))]), (SV.b false)]))))) else (bif (BEq.beq x3 (2 : Int)) then (Tree.letv (okO [(AT.i IntKind.i32)]) (K.sext w) fun x4 => (Tree.letv (okO [(AT.i IntKind.u32), AT.b]) (K.encode (PInstr.mk
 (IntKind.wrap IntKind.i64 x0) (IntKind.wrap IntKind.i64 x1) (IntKind.wrap IntKind.i64 x2) (0 : Int) x4)) fun x5 => (bif x5.snd then (bif (bne x5.fst w) then (Tree.leaf (SV.tup [(SV.agg [(SV.v (Value.int IntKind.i64 (0 : Int))), (SV.v (Value.int IntKind.i64 (0 : Int))), (SV.v (Value.int IntKind.i64 (0 : Int))), (SV.v (Value.int IntKind.i64 (0 : Int))), (SV.v (Value.int IntKind.i32 (0 : Int)))]), (SV.b false)])) else (Tree.leaf (SV.tup [(SV.agg [(SV.v (Value.int IntKind.i64 (IntKind.wrap IntKind.i64 x0))), (SV.v (Value.int IntKind.i64 (IntKind.wrap IntKind.i64 x1))), (SV.v (Value.int IntKind.i64 (IntKind.wrap IntKind.i64 x2))), (SV.v (Value.int IntKind.i64 (0 : Int))), (SV.v (Value.int IntKind.i32 x4))]), (SV.b true)]))) else (Tree.leaf (SV.tup [(SV.agg [(SV.v (Value.int IntKind.i64 (0 : Int))), (SV.v (Value.int IntKind.i64 (0 : Int))), (SV.v (Value.int IntKind.i64 (0 : Int))), (SV.v (Value.int IntKind.i64 (0 : Int))), (SV.v (Value.int IntKind.i32 (0 : Int)))]), (SV.b false)]))))) else (bif (BEq.beq x3 (3 : Int)) then (Tree.letv (okO [(AT.i IntKind.i32)]) (K.sext w) fun x4 => (Tree.letv (okO [(AT.i IntKind.u32), AT.b]) (K.encode (PInstr.mk (IntKind.wrap IntKind.i64 x0) (IntKind.wrap IntKind.i64 x1) (IntKind.wrap IntKind.i64 x2) (0 : Int) x4)) fun x5 => (bif x5.snd then (bif (bne x5.fst w) then (Tree.leaf (SV.tup [(SV.agg [(SV.v (Value.int IntKind.i64 (0 : Int))), (SV.v (Value.int IntKind.i64 (0 : Int))), (SV.v (Value.int IntKind.i64 (0 : Int))), (SV.v (Value.int IntKind.i64 (0 :
 Int))), (SV.v (Value.int IntKind.i32 (0 : Int)))]), (SV.b false)])) else (Tree.leaf (SV.tup [(SV.agg [(SV.v (Value.int IntKind.i64 (IntKind.wrap IntKind.i64 x0))), (SV.v (Value.int IntKind.i64 (IntKind.wrap IntKind.i64 x1))), (SV.v (Value.int IntKind.i64 (IntKind.wrap IntKind.i64 x2))), (SV.v (Value.int IntKind.i64 (0 : Int))), (SV.v (Value.int IntKind.i32 x4))]), (SV.b true)]))) else (Tree.leaf (SV.tup [(SV.agg [(SV.v (Value.int IntKind.i64 (0 : Int))), (SV.v (Value.int IntKind.i64 (0 : Int))), (SV.v (Value.int IntKind.i64 (0 : Int))), (SV.v (Value.int IntKind.i64 (0 : Int))), (SV.v (Value.int IntKind.i32 (0 : Int)))]), (SV.b false)]))))) else (bif (BEq.beq x3 (4 : Int)) then (Tree.letv (okO [(AT.i IntKind.i32)]) (K.sext w) fun x4 => (Tree.letv (okO [(AT.i IntKind.u32), AT.b]) (K.encode (PInstr.mk (IntKind.wrap IntKind.i64 x0) (IntKind.wrap IntKind.i64 x1) (IntKind.wrap IntKind.i64 x2) (0 : Int) x4)) fun x5 => (bif x5.snd then (bif (bne x5.fst w) then (Tree.leaf (SV.tup [(SV.agg [(SV.v (Value.int IntKind.i64 (0 : Int))), (SV.v (Value.int IntKind.i64 (0 : Int))), (SV.v (Value.int IntKind.i64 (0 : Int))), (SV.v (Value.int IntKind.i64 (0 : Int))), (SV.v (Value.int IntKind.i32 (0 : Int)))]), (SV.b false)])) else (Tree.leaf (SV.tup [(SV.agg [(SV.v (Value.int IntKind.i64 (IntKind.wrap IntKind.i64 x0))), (SV.v (Value.int IntKind.i64 (IntKind.wrap IntKind.i64 x1))), (SV.v (Value.int IntKind.i64 (IntKind.wrap IntKind.i64 x2))), (SV.v (Value.int IntKind.i64 (0 : Int))), (SV.v
 (Value.int IntKind.i32 x4))]), (SV.b true)]))) else (Tree.leaf (SV.tup [(SV.agg [(SV.v (Value.int IntKind.i64 (0 : Int))), (SV.v (Value.int IntKind.i64 (0 : Int))), (SV.v (Value.int IntKind.i64 (0 : Int))), (SV.v (Value.int IntKind.i64 (0 : Int))), (SV.v (Value.int IntKind.i32 (0 : Int)))]), (SV.b false)]))))) else (bif (BEq.beq x3 (5 : Int)) then (Tree.letv (okO [(AT.i IntKind.i32)]) (K.sext w) fun x4 => (Tree.letv (okO [(AT.i IntKind.u32), AT.b]) (K.encode (PInstr.mk (IntKind.wrap IntKind.i64 x0) (IntKind.wrap IntKind.i64 x1) (IntKind.wrap IntKind.i64 x2) (0 : Int) x4)) fun x5 => (bif x5.snd then (bif (bne x5.fst w) then (Tree.leaf (SV.tup [(SV.agg [(SV.v (Value.int IntKind.i64 (0 : Int))), (SV.v (Value.int IntKind.i64 (0 : Int))), (SV.v (Value.int IntKind.i64 (0 : Int))), (SV.v (Value.int IntKind.i64 (0 : Int))), (SV.v (Value.int IntKind.i32 (0 : Int)))]), (SV.b false)])) else (Tree.leaf (SV.tup [(SV.agg [(SV.v (Value.int IntKind.i64 (IntKind.wrap IntKind.i64 x0))), (SV.v (Value.int IntKind.i64 (IntKind.wrap IntKind.i64 x1))), (SV.v (Value.int IntKind.i64 (IntKind.wrap IntKind.i64 x2))), (SV.v (Value.int IntKind.i64 (0 : Int))), (SV.v (Value.int IntKind.i32 x4))]), (SV.b true)]))) else (Tree.leaf (SV.tup [(SV.agg [(SV.v (Value.int IntKind.i64 (0 : Int))), (SV.v (Value.int IntKind.i64 (0 : Int))), (SV.v (Value.int IntKind.i64 (0 : Int))), (SV.v (Value.int IntKind.i64 (0 : Int))), (SV.v (Value.int IntKind.i32 (0 : Int)))]), (SV.b false)]))))) else (bif (BEq.beq x3 (6 : Int))
 then (Tree.letv (okO [(AT.i IntKind.i32)]) (K.sext w) fun x4 => (Tree.letv (okO [(AT.i IntKind.u32), AT.b]) (K.encode (PInstr.mk (IntKind.wrap IntKind.i64 x0) (IntKind.wrap IntKind.i64 x1) (IntKind.wrap IntKind.i64 x2) (0 : Int) x4)) fun x5 => (bif x5.snd then (bif (bne x5.fst w) then (Tree.leaf (SV.tup [(SV.agg [(SV.v (Value.int IntKind.i64 (0 : Int))), (SV.v (Value.int IntKind.i64 (0 : Int))), (SV.v (Value.int IntKind.i64 (0 : Int))), (SV.v (Value.int IntKind.i64 (0 : Int))), (SV.v (Value.int IntKind.i32 (0 : Int)))]), (SV.b false)])) else (Tree.leaf (SV.tup [(SV.agg [(SV.v (Value.int IntKind.i64 (IntKind.wrap IntKind.i64 x0))), (SV.v (Value.int IntKind.i64 (IntKind.wrap IntKind.i64 x1))), (SV.v (Value.int IntKind.i64 (IntKind.wrap IntKind.i64 x2))), (SV.v (Value.int IntKind.i64 (0 : Int))), (SV.v (Value.int IntKind.i32 x4))]), (SV.b true)]))) else (Tree.leaf (SV.tup [(SV.agg [(SV.v (Value.int IntKind.i64 (0 : Int))), (SV.v (Value.int IntKind.i64 (0 : Int))), (SV.v (Value.int IntKind.i64 (0 : Int))), (SV.v (Value.int IntKind.i64 (0 : Int))), (SV.v (Value.int IntKind.i32 (0 : Int)))]), (SV.b false)]))))) else (bif (BEq.beq x3 (7 : Int)) then (Tree.letv (okO [(AT.i IntKind.i32)]) (K.sext w) fun x4 => (Tree.letv (okO [(AT.i IntKind.u32), AT.b]) (K.encode (PInstr.mk (IntKind.wrap IntKind.i64 x0) (IntKind.wrap IntKind.i64 x1) (IntKind.wrap IntKind.i64 x2) (0 : Int) x4)) fun x5 => (bif x5.snd then (bif (bne x5.fst w) then (Tree.leaf (SV.tup [(SV.agg [(SV.v (Value.int IntKind.i64
 (0 : Int))), (SV.v (Value.int IntKind.i64 (0 : Int))), (SV.v (Value.int IntKind.i64 (0 : Int))), (SV.v (Value.int IntKind.i64 (0 : Int))), (SV.v (Value.int IntKind.i32 (0 : Int)))]), (SV.b false)])) else (Tree.leaf (SV.tup [(SV.agg [(SV.v (Value.int IntKind.i64 (IntKind.wrap IntKind.i64 x0))), (SV.v (Value.int IntKind.i64 (IntKind.wrap IntKind.i64 x1))), (SV.v (Value.int IntKind.i64 (IntKind.wrap IntKind.i64 x2))), (SV.v (Value.int IntKind.i64 (0 : Int))), (SV.v (Value.int IntKind.i32 x4))]), (SV.b true)]))) else (Tree.leaf (SV.tup [(SV.agg [(SV.v (Value.int IntKind.i64 (0 : Int))), (SV.v (Value.int IntKind.i64 (0 : Int))), (SV.v (Value.int IntKind.i64 (0 : Int))), (SV.v (Value.int IntKind.i64 (0 : Int))), (SV.v (Value.int IntKind.i32 (0 : Int)))]), (SV.b false)]))))) else (Tree.fail))))))))) else (Tree.fail))))) := by kernel_rfl
section
attribute [local irreducible] evF evFL evFLs evFP
theorem a_isa_Decode (w : Int) (ok_w : okI .u32 w) : (evF E_isa_Decode 60 46 (encArgs [.i .u32] (w, ()))).ends fun out_ => decO [.instr, .b] out_ = some (K.decode w) := by
  rw [t_isa_Decode, Tree.ends_holds]
  obtain ⟨w0, w1⟩ := okI_u32 ok_w
  have f1 : K.field w 26 6 = w / 67108864 := by simp [K.field, K.pow]; omega
  have f2 : K.field w 22 4 = w / 4194304 % 16 := by simp [K.field, K.pow]
  have f3 : K.field w 18 4 = w / 262144 % 16 := by simp [K.field, K.pow]
  have f4 : K.field w 0 4 = w % 16 := by simp [K.field, K.pow]
  have i1 : IntKind.i64.wrap (w / 67108864) = w / 67108864 := wrapI64 (by omega) (by omega)
  have i2 : IntKind.i64.wrap (w / 4194304 % 16) = w / 4194304 % 16 := wrapI64 (by omega) (by omega)
  have i3 : IntKind.i64.wrap (w / 262144 % 16) = w / 262144 % 16 := wrapI64 (by omega) (by omega)
  have i4 : IntKind.i64.wrap (w % 16) = w % 16 := wrapI64 (by omega) (by omega)
  have hf := form_range (w / 67108864)
  have g1 : K.form (w / 67108864) = 1 → (⟨w / 67108864, w / 4194304 % 16, w / 262144 % 16, w % 16, 0⟩ : PInstr) = K.splitW w := fun h => by simp [K.splitW, h]
  have g2 : K.form (w / 67108864) ≠ 1 → (⟨w / 67108864, w / 4194304 % 16, w / 262144 % 16, 0, K.sext w⟩ : PInstr) = K.splitW w := fun h => by simp [K.splitW, h]
  have d1 : (K.encode (K.splitW w)).2 = true → (K.encode (K.splitW w)).1 = w → K.decode w = (K.splitW w, true) := fun h1 h2 => by
    unfold K.encode at h1 h2
    by_cases hm : K.may (K.splitW w) = true
    · rw [if_pos hm] at h2; unfold K.decode; rw [if_pos ⟨hm, h2⟩]
    · rw [if_neg hm] at h1; simp at h1
  have d2 : ¬ ((K.encode (K.splitW w)).2 = true ∧ (K.encode (K.splitW w)).1 = w) → K.decode w = (⟨0, 0, 0, 0, 0⟩, false) := fun h => by
    unfold K.encode at h
    unfold K.decode
    rw [if_neg]
    rintro ⟨h1, h2⟩
    rw [if_pos h1] at h; exact h ⟨rfl, h2⟩
  simp only [Tree.holds_loop, Tree.holds_fork, Tree.holds_next, if_true, Tree.holds_cond, Tree.holds_letv, Tree.holds_leaf, Tree.holds_fail, decO, decA, decTup, decMach, decCore, decTrap, decInstr, decPart, decGuest, decConf, decEvent, decVcpu, decStep, bytesS, boolS, eventsS, intsS, guestsS, vcpusS, rowS, castL, Option.bind_some, Option.map_some, Option.some.injEq, Nat.beq_refl, beq_self_eq_true, Bool.and_self, cond_true, cond_false, eq_self, beq_iff_eq, beq_eq_false_iff_ne, bne_iff_ne, bne_eq_false_iff_eq, ne_eq, decide_eq_true_eq, decide_eq_false_iff_not, ble_true, ble_false, inRange_iff, inRange_false, f1, f2, f3, f4, i1, i2, i3, i4]
  have fin : ∀ i, i = K.splitW w → (okO [AT.i IntKind.u32, AT.b] (K.encode i) → ((K.encode i).2 = true → (¬ (K.encode i).1 = w → ((⟨0, 0, 0, 0, 0⟩ : PInstr), false) = K.decode w) ∧ ((K.encode i).1 = w → (i, true) = K.decode w)) ∧ ((K.encode i).2 = false → ((⟨0, 0, 0, 0, 0⟩ : PInstr), false) = K.decode w)) := fun i hi _ => by
    subst hi
    exact ⟨fun a => ⟨fun b => (d2 fun c => b c.2).symm, fun b => (d1 a b).symm⟩, fun a => (d2 fun c => by rw [a] at c; exact absurd c.1 (by simp)).symm⟩
  clear d1 d2 f1 f2 f3 f4 i1 i2 i3 i4
  intro _ _ _ _
  generalize K.form (w / 67108864) = f at *
  rcases hf with rfl | rfl | rfl | rfl | rfl | rfl | rfl | rfl
  all_goals simp
  all_goals first | exact fun _ => by simpa using fin _ (g1 rfl) | exact fun _ => by simpa using fin _ (g2 (by decide)) | trace_state
  
theorem c_isa_Decode : SpecOk EB_0_1 46 S_isa_Decode := spec_sig ok_isa_Decode (n := 60) fun ⟨w, ⟨⟩⟩ h hok => a_isa_Decode w (ok_int (okSL_head hok))
end

/-! isa_IsPrivileged -/

def S_isa_IsPrivileged : Spec := sig [.i .i64] [.b] (fun (op, _) => K.privd op)
noncomputable def E_isa_IsPrivileged : Env := EB.adds []

theorem ok_isa_IsPrivileged : EnvOk E_isa_IsPrivileged := okEB.adds (l := _) trivial
theorem t_isa_IsPrivileged (op : Int) : evF E_isa_IsPrivileged 60 42 (encArgs [.i .i64] (op, ())) = bif (decide (op ≥ (21 : Int))) then (bif (decide (op ≤ (25 : Int))) then (Tree.leaf (SV.b true)) else (Tree.leaf (SV.b false))) else (Tree.leaf (SV.b false)) := by kernel_rfl
section
attribute [local irreducible] evF evFL evFLs evFP
theorem a_isa_IsPrivileged (op : Int) (ok_op : okI .i64 op) : (evF E_isa_IsPrivileged 60 42 (encArgs [.i .i64] (op, ()))).ends fun out_ => decO [.b] out_ = some (K.privd op) := by
  rw [t_isa_IsPrivileged, Tree.ends_holds]
  simp only [Tree.holds_loop, Tree.holds_fork, Tree.holds_next, if_true, Tree.holds_cond, Tree.holds_letv, Tree.holds_leaf, Tree.holds_fail, decO, decA, decTup, decMach, decCore, decTrap, decInstr, decPart, decGuest, decConf, decEvent, decVcpu, decStep, bytesS, boolS, eventsS, intsS, guestsS, vcpusS, rowS, castL, Option.bind_some, Option.map_some, Option.some.injEq, Nat.beq_refl, beq_self_eq_true, Bool.and_self, cond_true, cond_false, eq_self, beq_iff_eq, beq_eq_false_iff_ne, bne_iff_ne, bne_eq_false_iff_eq, ne_eq, decide_eq_true_eq, decide_eq_false_iff_not, ble_true, ble_false, inRange_iff, inRange_false, K.privd]
  repeat' (first | refine drop_ok ?_ | intro _ | with_reducible apply And.intro)
  all_goals (simp_all; try omega)
  
theorem c_isa_IsPrivileged : SpecOk EB 42 S_isa_IsPrivileged := spec_sig ok_isa_IsPrivileged (n := 60) fun ⟨op, ⟨⟩⟩ h hok => a_isa_IsPrivileged op (ok_int (okSL_head hok))
end

/-! trap_IsSupervisor -/

def S_trap_IsSupervisor : Spec := sig [.core] [.b] (fun (c, _) => K.super c)
noncomputable def E_trap_IsSupervisor : Env := EB.adds []

theorem ok_trap_IsSupervisor : EnvOk E_trap_IsSupervisor := okEB.adds (l := _) trivial
theorem t_trap_IsSupervisor (c : PCore) : evF E_trap_IsSupervisor 60 49 (encArgs [.core] (c, ())) = bif (bne (andI IntKind.u32 (List.getD c.csr 0 (0 : Int)) (1 : Int)) (0 : Int)) then (Tree.leaf (SV.b true)) else (Tree.leaf (SV.b false)) := by kernel_rfl
section
attribute [local irreducible] evF evFL evFLs evFP
theorem a_trap_IsSupervisor (c : PCore) (ok_c : okCore c) : (evF E_trap_IsSupervisor 60 49 (encArgs [.core] (c, ()))).ends fun out_ => decO [.b] out_ = some (K.super c) := by
  rw [t_trap_IsSupervisor, Tree.ends_holds]
  obtain ⟨s0, s1⟩ := ok_c.csr.u32 (i := 0) (by omega)
  simp only [Tree.holds_loop, Tree.holds_fork, Tree.holds_next, if_true, Tree.holds_cond, Tree.holds_letv, Tree.holds_leaf, Tree.holds_fail, decO, decA, decTup, decMach, decCore, decTrap, decInstr, decPart, decGuest, decConf, decEvent, decVcpu, decStep, bytesS, boolS, eventsS, intsS, guestsS, vcpusS, rowS, castL, Option.bind_some, Option.map_some, Option.some.injEq, Nat.beq_refl, beq_self_eq_true, Bool.and_self, cond_true, cond_false, eq_self, beq_iff_eq, beq_eq_false_iff_ne, bne_iff_ne, bne_eq_false_iff_eq, ne_eq, decide_eq_true_eq, decide_eq_false_iff_not, ble_true, ble_false, inRange_iff, inRange_false, K.super, and_1 s0 s1]
  repeat' (first | refine drop_ok ?_ | intro _ | with_reducible apply And.intro)
  all_goals (simp_all; try omega)
  
theorem c_trap_IsSupervisor : SpecOk EB 49 S_trap_IsSupervisor := spec_sig ok_trap_IsSupervisor (n := 60) fun ⟨c, ⟨⟩⟩ h hok => a_trap_IsSupervisor c (ok_core (okSL_head hok))
end

/-! step_Current -/

def S_step_Current : Spec := sig [.mach] [.instr, .trap] (fun (m, _) => K.cur m)
noncomputable def E_step_Current : Env := EB_0_1_2.adds [(45, S_fetch_Fetch), (46, S_isa_Decode), (42, S_isa_IsPrivileged), (49, S_trap_IsSupervisor)]

theorem ok_step_Current : EnvOk E_step_Current := okEB_0_1_2.adds (l := _) ⟨(up_2_to_0_1_2 c_fetch_Fetch), (up_0_1_to_0_1_2 c_isa_Decode), (up_to_0_1_2 c_isa_IsPrivileged), (up_to_0_1_2 c_trap_IsSupervisor), trivial⟩
theorem t_step_Current (m : PMach) : evF E_step_Current 60 25 (encArgs [.mach] (m, ())) = Tree.letv (okO [(AT.i IntKind.u32), AT.trap]) (K.load m m.core.pc (4 : Int)) fun x0 => (bif (bne x0.snd.cause (0 : Int)) then (Tree.leaf (SV.tup [(SV.agg [(SV.v (Value.int IntKind.i64 (0 : Int))), (SV.v (Value.int IntKind.i64 (0 : Int))), (SV.v (Value.int IntKind.i64 (0 : Int))), (SV.v (Value.int IntKind.i64 (0 : Int))), (SV.v (Value.int IntKind.i32 (0 : Int)))]), (SV.agg [(SV.v (Value.int IntKind.i64 x0.snd.cause)), (SV.v (Value.int IntKind.u32 x0.snd.tval))])])) else (Tree.letv (okO [AT.instr, AT.b]) (K.decode x0.fst) fun x1 => (bif x1.snd then (Tree.letv (okO [AT.b]) (K.privd x1.fst.op) fun x2 => (bif x2 then (Tree.letv (okO [AT.b]) (K.super m.core) fun x3 => (bif x3 then (Tree.leaf (SV.tup [(SV.agg [(SV.v (Value.int IntKind.i64 x1.fst.op)), (SV.v (Value.int IntKind.i64 x1.fst.rd)), (SV.v (Value.int IntKind.i64 x1.fst.ra)), (SV.v (Value.int IntKind.i64 x1.fst.rb)), (SV.v (Value.int IntKind.i32 x1.fst.imm))]), (SV.agg [(SV.v (Value.int IntKind.i64 (0 : Int))), (SV.v (Value.int IntKind.u32 (0 : Int)))])])) else (Tree.leaf (SV.tup [(SV.agg [(SV.v (Value.int IntKind.i64 (0 : Int))), (SV.v (Value.int IntKind.i64 (0 : Int))), (SV.v (Value.int IntKind.i64 (0 : Int))), (SV.v (Value.int IntKind.i64 (0 : Int))), (SV.v (Value.int IntKind.i32 (0 : Int)))]), (SV.agg [(SV.v (Value.int IntKind.i64 (2 : Int))), (SV.v (Value.int IntKind.u32 x0.fst))])])))) else (Tree.leaf (SV.tup [(SV.agg [(SV.v
 (Value.int IntKind.i64 x1.fst.op)), (SV.v (Value.int IntKind.i64 x1.fst.rd)), (SV.v (Value.int IntKind.i64 x1.fst.ra)), (SV.v (Value.int IntKind.i64 x1.fst.rb)), (SV.v (Value.int IntKind.i32 x1.fst.imm))]), (SV.agg [(SV.v (Value.int IntKind.i64 (0 : Int))), (SV.v (Value.int IntKind.u32 (0 : Int)))])])))) else (Tree.leaf (SV.tup [(SV.agg [(SV.v (Value.int IntKind.i64 (0 : Int))), (SV.v (Value.int IntKind.i64 (0 : Int))), (SV.v (Value.int IntKind.i64 (0 : Int))), (SV.v (Value.int IntKind.i64 (0 : Int))), (SV.v (Value.int IntKind.i32 (0 : Int)))]), (SV.agg [(SV.v (Value.int IntKind.i64 (1 : Int))), (SV.v (Value.int IntKind.u32 x0.fst))])]))))) := by kernel_rfl
section
attribute [local irreducible] evF evFL evFLs evFP
theorem a_step_Current (m : PMach) (ok_m : okMach m) : (evF E_step_Current 60 25 (encArgs [.mach] (m, ()))).ends fun out_ => decO [.instr, .trap] out_ = some (K.cur m) := by
  rw [t_step_Current, Tree.ends_holds]
  simp only [Tree.holds_loop, Tree.holds_fork, Tree.holds_next, if_true, Tree.holds_cond, Tree.holds_letv, Tree.holds_leaf, Tree.holds_fail, decO, decA, decTup, decMach, decCore, decTrap, decInstr, decPart, decGuest, decConf, decEvent, decVcpu, decStep, bytesS, boolS, eventsS, intsS, guestsS, vcpusS, rowS, castL, Option.bind_some, Option.map_some, Option.some.injEq, Nat.beq_refl, beq_self_eq_true, Bool.and_self, cond_true, cond_false, eq_self, beq_iff_eq, beq_eq_false_iff_ne, bne_iff_ne, bne_eq_false_iff_eq, ne_eq, decide_eq_true_eq, decide_eq_false_iff_not, ble_true, ble_false, inRange_iff, inRange_false]
  unfold K.cur
  repeat' (first | refine drop_ok ?_ | intro _ | with_reducible apply And.intro)
  all_goals simp_all
  
theorem c_step_Current : SpecOk EB_0_1_2 25 S_step_Current := spec_sig ok_step_Current (n := 60) fun ⟨m, ⟨⟩⟩ h hok => a_step_Current m (ok_mach (okSL_head hok))
end

/-! trap_Enter -/

def S_trap_Enter : Spec := sig [.core, .trap] [.core] (fun (c, t, _) => K.enter c t)
noncomputable def E_trap_Enter : Env := EB.adds []

theorem ok_trap_Enter : EnvOk E_trap_Enter := okEB.adds (l := _) trivial
theorem t_trap_Enter (c : PCore) (t : PTrap) : evF E_trap_Enter 60 68 (encArgs [.core, .trap] (c, t, ())) = bif (BEq.beq t.cause (0 : Int)) then (Tree.leaf (SV.agg [(SV.arr IntKind.u32 16 c.regs), (SV.v (Value.int IntKind.u32 c.pc)), (SV.arr IntKind.u32 12 c.csr)])) else (bif (bne (andI IntKind.u32 (List.getD (List.set (List.set (List.set c.csr 1 c.pc) 2 (IntKind.wrap IntKind.u32 t.cause)) 3 t.tval) 0 (0 : Int)) (1 : Int)) (0 : Int)) then (bif (bne (andI IntKind.u32 (List.getD (List.set (List.set (List.set c.csr 1 c.pc) 2 (IntKind.wrap IntKind.u32 t.cause)) 3 t.tval) 0 (0 : Int)) (2 : Int)) (0 : Int)) then (Tree.leaf (SV.agg [(SV.arr IntKind.u32 16 c.regs), (SV.v (Value.int IntKind.u32 (List.getD (List.set (List.set (List.set c.csr 1 c.pc) 2 (IntKind.wrap IntKind.u32 t.cause)) 3 t.tval) 4 (0 : Int)))), (SV.arr IntKind.u32 12 (List.set (List.set (List.set (List.set c.csr 1 c.pc) 2 (IntKind.wrap IntKind.u32 t.cause)) 3 t.tval) 0 (andNotI IntKind.u32 (orI IntKind.u32 (orI IntKind.u32 (orI IntKind.u32 (List.getD (List.set (List.set (List.set c.csr 1 c.pc) 2 (IntKind.wrap IntKind.u32 t.cause)) 3 t.tval) 0 (0 : Int)) (4 : Int)) (8 : Int)) (1 : Int)) (2 : Int))))])) else (Tree.leaf (SV.agg [(SV.arr IntKind.u32 16 c.regs), (SV.v (Value.int IntKind.u32 (List.getD (List.set (List.set (List.set c.csr 1 c.pc) 2 (IntKind.wrap IntKind.u32 t.cause)) 3 t.tval) 4 (0 : Int)))), (SV.arr IntKind.u32 12 (List.set (List.set (List.set (List.set c.csr 1 c.pc) 2 (IntKind.wrap IntKind.u32 t.cause)) 3
 t.tval) 0 (andNotI IntKind.u32 (orI IntKind.u32 (andNotI IntKind.u32 (orI IntKind.u32 (List.getD (List.set (List.set (List.set c.csr 1 c.pc) 2 (IntKind.wrap IntKind.u32 t.cause)) 3 t.tval) 0 (0 : Int)) (4 : Int)) (8 : Int)) (1 : Int)) (2 : Int))))]))) else (bif (bne (andI IntKind.u32 (List.getD (List.set (List.set (List.set c.csr 1 c.pc) 2 (IntKind.wrap IntKind.u32 t.cause)) 3 t.tval) 0 (0 : Int)) (2 : Int)) (0 : Int)) then (Tree.leaf (SV.agg [(SV.arr IntKind.u32 16 c.regs), (SV.v (Value.int IntKind.u32 (List.getD (List.set (List.set (List.set c.csr 1 c.pc) 2 (IntKind.wrap IntKind.u32 t.cause)) 3 t.tval) 4 (0 : Int)))), (SV.arr IntKind.u32 12 (List.set (List.set (List.set (List.set c.csr 1 c.pc) 2 (IntKind.wrap IntKind.u32 t.cause)) 3 t.tval) 0 (andNotI IntKind.u32 (orI IntKind.u32 (orI IntKind.u32 (andNotI IntKind.u32 (List.getD (List.set (List.set (List.set c.csr 1 c.pc) 2 (IntKind.wrap IntKind.u32 t.cause)) 3 t.tval) 0 (0 : Int)) (4 : Int)) (8 : Int)) (1 : Int)) (2 : Int))))])) else (Tree.leaf (SV.agg [(SV.arr IntKind.u32 16 c.regs), (SV.v (Value.int IntKind.u32 (List.getD (List.set (List.set (List.set c.csr 1 c.pc) 2 (IntKind.wrap IntKind.u32 t.cause)) 3 t.tval) 4 (0 : Int)))), (SV.arr IntKind.u32 12 (List.set (List.set (List.set (List.set c.csr 1 c.pc) 2 (IntKind.wrap IntKind.u32 t.cause)) 3 t.tval) 0 (andNotI IntKind.u32 (orI IntKind.u32 (andNotI IntKind.u32 (andNotI IntKind.u32 (List.getD (List.set (List.set (List.set c.csr 1 c.pc) 2 (IntKind.wrap IntKind.u32 t.cause))
 3 t.tval) 0 (0 : Int)) (4 : Int)) (8 : Int)) (1 : Int)) (2 : Int))))])))) := by kernel_rfl
section
attribute [local irreducible] evF evFL evFLs evFP
theorem a_trap_Enter (c : PCore) (t : PTrap) (ok_c : okCore c) (ok_t : okTrap t) : (evF E_trap_Enter 60 68 (encArgs [.core, .trap] (c, t, ()))).ends fun out_ => decO [.core] out_ = some (K.enter c t) := by
  rw [t_trap_Enter, Tree.ends_holds]
  obtain ⟨s0, s1⟩ := ok_c.csr.u32 (i := 0) (by omega)
  obtain ⟨a0, a1, a2, a3, a4, a5, a6, a7, a8, a9, a10, a11, hc⟩ := list12 ok_c.csr.1
  have hs : c.csr.getD 0 0 = a0 := by rw [hc]; rfl
  rw [hs] at s0 s1
  simp only [Tree.holds_loop, Tree.holds_fork, Tree.holds_next, if_true, Tree.holds_cond, Tree.holds_letv, Tree.holds_leaf, Tree.holds_fail, decO, decA, decTup, decMach, decCore, decTrap, decInstr, decPart, decGuest, decConf, decEvent, decVcpu, decStep, bytesS, boolS, eventsS, intsS, guestsS, vcpusS, rowS, castL, Option.bind_some, Option.map_some, Option.some.injEq, Nat.beq_refl, beq_self_eq_true, Bool.and_self, cond_true, cond_false, eq_self, beq_iff_eq, beq_eq_false_iff_ne, bne_iff_ne, bne_eq_false_iff_eq, ne_eq, decide_eq_true_eq, decide_eq_false_iff_not, ble_true, ble_false, inRange_iff, inRange_false, K.enter, hc, wrap32]
  simp only [List.set_cons_zero, List.set_cons_succ, List.getD_cons_zero, List.getD_cons_succ]
  simp only [and_1 s0 s1, and_2 s0 s1]
  refine ⟨fun h => ?_, fun h => ?_⟩
  · rw [if_pos h, ← hc]
  rw [if_neg h]
  unfold K.enterS
  repeat' (first | refine drop_ok ?_ | intro _ | with_reducible apply And.intro)
  all_goals
    simp only [PCore.mk.injEq, List.cons.injEq, and_true, true_and]
    show @Eq Int _ _
    first
      | (rw [or_4 s0 s1, or_8 (by omega) (by omega), or_1 (by omega) (by omega), andNot_2 (by omega) (by omega)]; omega)
      | (rw [or_4 s0 s1, andNot_8 (by omega) (by omega), or_1 (by omega) (by omega), andNot_2 (by omega) (by omega)]; omega)
      | (rw [andNot_4 s0 s1, or_8 (by omega) (by omega), or_1 (by omega) (by omega), andNot_2 (by omega) (by omega)]; omega)
      | (rw [andNot_4 s0 s1, andNot_8 (by omega) (by omega), or_1 (by omega) (by omega), andNot_2 (by omega) (by omega)]; omega)
  
theorem c_trap_Enter : SpecOk EB 68 S_trap_Enter := spec_sig ok_trap_Enter (n := 60) fun ⟨c, t, ⟨⟩⟩ h hok => a_trap_Enter c t (ok_core (okSL_head hok)) (ok_trap (okSL_head (okSL_tail hok)))
end

/-! step_end -/

def S_step_end : Spec := sig [.mach, .trap] [.mach, .trap] (fun (m, t, _) => K.endS m t)
noncomputable def E_step_end : Env := EB.adds [(68, S_trap_Enter)]

theorem ok_step_end : EnvOk E_step_end := okEB.adds (l := _) ⟨c_trap_Enter, trivial⟩
theorem t_step_end (m : PMach) (t : PTrap) : evF E_step_end 60 41 (encArgs [.mach, .trap] (m, t, ())) = Tree.letv (okO [AT.core]) (K.enter m.core t) fun x0 => (Tree.leaf (SV.tup [(SV.agg [(SV.arr IntKind.u32 16 x0.regs), (SV.v (Value.int IntKind.u32 x0.pc)), (SV.arr IntKind.u32 12 x0.csr), (SV.rd ETy.u8 m.mem), (SV.v (Value.int IntKind.u64 (IntKind.wrap IntKind.u64 (m.time + (1 : Int))))), (SV.rd ETy.u8 m.out), (SV.v (Value.bool m.halted))]), (SV.agg [(SV.v (Value.int IntKind.i64 t.cause)), (SV.v (Value.int IntKind.u32 t.tval))])])) := by kernel_rfl
section
attribute [local irreducible] evF evFL evFLs evFP
theorem a_step_end (m : PMach) (t : PTrap) (ok_m : okMach m) (ok_t : okTrap t) : (evF E_step_end 60 41 (encArgs [.mach, .trap] (m, t, ()))).ends fun out_ => decO [.mach, .trap] out_ = some (K.endS m t) := by
  rw [t_step_end, Tree.ends_holds]
  simp only [Tree.holds_loop, Tree.holds_fork, Tree.holds_next, if_true, Tree.holds_cond, Tree.holds_letv, Tree.holds_leaf, Tree.holds_fail, decO, decA, decTup, decMach, decCore, decTrap, decInstr, decPart, decGuest, decConf, decEvent, decVcpu, decStep, bytesS, boolS, eventsS, intsS, guestsS, vcpusS, rowS, castL, Option.bind_some, Option.map_some, Option.some.injEq, Nat.beq_refl, beq_self_eq_true, Bool.and_self, cond_true, cond_false, eq_self, K.endS, wrap64]
  repeat' (first | refine drop_ok ?_ | intro _ | with_reducible apply And.intro)
  all_goals simp_all
  
theorem c_step_end : SpecOk EB 41 S_step_end := spec_sig ok_step_end (n := 60) fun ⟨m, t, ⟨⟩⟩ h hok => a_step_end m t (ok_mach (okSL_head hok)) (ok_trap (okSL_head (okSL_tail hok)))
end

/-! regs_Get -/

def S_regs_Get : Spec := sig [.a .u32 16, .i .i64] [.i .u32] (fun (r, i, _) => K.get r i)
noncomputable def E_regs_Get : Env := EB.adds []

theorem ok_regs_Get : EnvOk E_regs_Get := okEB.adds (l := _) trivial
theorem t_regs_Get (r : List Int) (i : Int) : evF E_regs_Get 60 69 (encArgs [.a .u32 16, .i .i64] (r, i, ())) = bif (decide (i > (0 : Int))) then (bif (decide (i < (16 : Int))) then (bif (inRange i 16) then (Tree.leaf (SV.v (Value.int IntKind.u32 (List.getD r ((Int.toNat i)) (0 : Int))))) else (Tree.fail)) else (Tree.leaf (SV.v (Value.int IntKind.u32 (0 : Int))))) else (Tree.leaf (SV.v (Value.int IntKind.u32 (0 : Int)))) := by kernel_rfl
section
attribute [local irreducible] evF evFL evFLs evFP
theorem a_regs_Get (r : List Int) (i : Int) (ok_r : okL .u32 16 r) (ok_i : okI .i64 i) : (evF E_regs_Get 60 69 (encArgs [.a .u32 16, .i .i64] (r, i, ()))).ends fun out_ => decO [.i .u32] out_ = some (K.get r i) := by
  rw [t_regs_Get, Tree.ends_holds]
  simp only [Tree.holds_loop, Tree.holds_fork, Tree.holds_next, if_true, Tree.holds_cond, Tree.holds_letv, Tree.holds_leaf, Tree.holds_fail, decO, decA, decTup, decMach, decCore, decTrap, decInstr, decPart, decGuest, decConf, decEvent, decVcpu, decStep, bytesS, boolS, eventsS, intsS, guestsS, vcpusS, rowS, castL, Option.bind_some, Option.map_some, Option.some.injEq, Nat.beq_refl, beq_self_eq_true, Bool.and_self, cond_true, cond_false, eq_self, K.get]
  grind [inRange]
  
theorem c_regs_Get : SpecOk EB 69 S_regs_Get := spec_sig ok_regs_Get (n := 60) fun ⟨r, i, ⟨⟩⟩ h hok => a_regs_Get r i (ok_arr (okSL_head hok)) (ok_int (okSL_head (okSL_tail hok)))
end

/-! regs_Set -/

def S_regs_Set : Spec := sig [.a .u32 16, .i .i64, .i .u32] [.a .u32 16] (fun (r, i, v, _) => K.put r i v)
noncomputable def E_regs_Set : Env := EB.adds []

theorem ok_regs_Set : EnvOk E_regs_Set := okEB.adds (l := _) trivial
theorem t_regs_Set (r : List Int) (i : Int) (v : Int) : evF E_regs_Set 60 71 (encArgs [.a .u32 16, .i .i64, .i .u32] (r, i, v, ())) = bif (decide (i > (0 : Int))) then (bif (decide (i < (16 : Int))) then (bif (inRange i 16) then (Tree.leaf (SV.agg [(SV.arr IntKind.u32 16 (List.set r ((Int.toNat i)) v))])) else (Tree.fail)) else (Tree.leaf (SV.agg [(SV.arr IntKind.u32 16 r)]))) else (Tree.leaf (SV.agg [(SV.arr IntKind.u32 16 r)])) := by kernel_rfl
section
attribute [local irreducible] evF evFL evFLs evFP
theorem a_regs_Set (r : List Int) (i : Int) (v : Int) (ok_r : okL .u32 16 r) (ok_i : okI .i64 i) (ok_v : okI .u32 v) : (evF E_regs_Set 60 71 (encArgs [.a .u32 16, .i .i64, .i .u32] (r, i, v, ()))).ends fun out_ => decO [.a .u32 16] out_ = some (K.put r i v) := by
  rw [t_regs_Set, Tree.ends_holds]
  simp only [Tree.holds_loop, Tree.holds_fork, Tree.holds_next, if_true, Tree.holds_cond, Tree.holds_letv, Tree.holds_leaf, Tree.holds_fail, decO, decA, decTup, decMach, decCore, decTrap, decInstr, decPart, decGuest, decConf, decEvent, decVcpu, decStep, bytesS, boolS, eventsS, intsS, guestsS, vcpusS, rowS, castL, Option.bind_some, Option.map_some, Option.some.injEq, Nat.beq_refl, beq_self_eq_true, Bool.and_self, cond_true, cond_false, eq_self, K.put]
  grind [inRange]
  
theorem c_regs_Set : SpecOk EB 71 S_regs_Set := spec_sig ok_regs_Set (n := 60) fun ⟨r, i, v, ⟨⟩⟩ h hok => a_regs_Set r i v (ok_arr (okSL_head hok)) (ok_int (okSL_head (okSL_tail hok))) (ok_int (okSL_head (okSL_tail (okSL_tail hok))))
end


end Go.Proofs.YtchljgmcempedaaGreatDoor
