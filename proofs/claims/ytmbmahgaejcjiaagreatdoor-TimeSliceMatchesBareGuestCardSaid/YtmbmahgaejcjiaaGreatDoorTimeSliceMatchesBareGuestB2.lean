/- Contracts of functions, by evaluation (nothing is claimed here). -/
import Derived.Test.YtmbmahgaejcjiaaGreatDoorSh29
import Derived.KernelRfl
import Derived.Test.YtmbmahgaejcjiaaGreatDoorProg
import Derived.Test.YtmbmahgaejcjiaaGreatDoorTimeSliceMatchesBareGuestB1
set_option linter.unusedVariables false
set_option linter.unusedSimpArgs false
set_option maxRecDepth 100000
set_option maxHeartbeats 1000000
namespace Go.Proofs.YtmbmahgaejcjiaaGreatDoor
open Go
/-! Ktwin -/
/-- two hosts that agree in a partition -/
structure K.Twin (p : PPart) (a b : PMach) : Prop where
  time : a.time = b.time
  len : a.mem.length = b.mem.length
  mem : ∀ i : Int, p.base ≤ i → i < p.base + p.size → a.mem.getD i.toNat 0 = b.mem.getD i.toNat 0
theorem win_twin {D1 D2 : PMach} {v : PVcpu} {p : PPart} {alarm : Int} (d1 : K.Disp D1 v p alarm) (d2 : K.Disp D2 v p alarm) (f1 : K.Fit D1 v p) (f2 : K.Fit D2 v p) (tw : K.Twin p D1 D2) : K.Win 0 p.base (p.base + p.size) D1 D2 := by
  have W1 := disp_win (T := 0) d1 f1
  have W2 := disp_win (T := 0) d2 f2
  have hl : (K.bare D2 v p 0).mem.length = (K.bare D1 v p 0).mem.length := by
    have e1 := bare_len (T := 0) f1
    have e2 := bare_len (T := 0) f2
    omega
  have hg : ∀ a n, K.cell (K.bare D2 v p 0) a n = K.cell (K.bare D1 v p 0) a n := fun a n => cell_congr (m := K.bare D1 v p 0) (m' := K.bare D2 v p 0) rfl hl a n
  have hc : ∀ a n, 0 ≤ a → (n = 1 ∨ n = 4) → K.cell D1 a n = K.cell D2 a n := fun a n a0 hn => by rw [W1.cell a n a0 hn, W2.cell a n a0 hn, hg]
  have p0 := f1.p0
  refine ⟨d1.regs.trans d2.regs.symm, d1.pc.trans d2.pc.symm, fun a n a0 hn => ?_, fun a n a0 hn hz => ?_, f1.p0, by have := f1.p0; omega, f2.fit, by have := f1.fit; omega, fun i h0 h1 => by rw [Int.add_zero]; exact tw.mem i h0 h1⟩
  · rw [hc a n a0 hn]
    by_cases hz : (K.cell D2 a n).2.cause = 0
    · rw [if_pos hz, Int.add_zero]
    · rw [if_neg hz]
      exact Prod.ext (cell_first hz) rfl
  · have e := W2.cell a n a0 hn
    have hz2 : (K.cell (K.bare D2 v p 0) a n).2.cause = 0 := by rw [e] at hz; exact hz
    have r := W2.range a n a0 hn hz2
    rw [e, if_pos hz2]
    show p.base ≤ (K.cell (K.bare D2 v p 0) a n).1 + p.base ∧ (K.cell (K.bare D2 v p 0) a n).1 + p.base + n ≤ p.base + p.size
    omega
theorem twin_step {D1 D2 a b : PMach} {v : PVcpu} {p : PPart} {alarm n : Int} (ht : D1.time = D2.time) (R1 : K.Runs D1 v p alarm a n) (R2 : K.Runs D2 v p alarm b n) (W : K.Win 0 p.base (p.base + p.size) a b) :
    (K.step a).2 = (K.step b).2 ∧ ((K.step a).2.cause = 0 → K.Win 0 p.base (p.base + p.size) (K.step a).1 (K.step b).1) := by
  have e1 : a.time = b.time := by rw [R1.time, R2.time, ht]
  have i1 : K.ie a.core = true := by unfold K.ie; rw [R1.disp.st]; rfl
  have i2 : K.ie b.core = true := by unfold K.ie; rw [R2.disp.st]; rfl
  have hd : K.due a = K.due b := by unfold K.due; rw [i1, i2, R1.disp.cmp, R2.disp.cmp, e1]
  cases hq : K.due b with
  | true =>
    rw [hq] at hd
    rw [step_due R1.user.go hd, step_due R2.user.go hq]
    exact ⟨rfl, fun h => absurd (show (6 : Int) = 0 from h) (by omega)⟩
  | false =>
    rw [hq] at hd
    rw [step_plain hd, step_plain hq, plain_raw R1.user.go, plain_raw R2.user.go]
    obtain ⟨w1, w2, _, _⟩ := W.rawP (okI_u32 R2.good.core.pc).1 R1.user.user R2.user.user
    refine ⟨w1, fun hz => ?_⟩
    have hz1 : (K.rawP a).2 = ⟨0, 0⟩ := rawP_zero hz
    have hz2 : (K.rawP b).2 = ⟨0, 0⟩ := w1.symm.trans hz1
    rw [hz1, hz2]
    unfold K.endS
    rw [enter_none, enter_none]
    exact w2.keep rfl rfl rfl rfl w2.regs w2.pc w2.mem
theorem untl_twin {D1 D2 : PMach} {v : PVcpu} {p : PPart} {alarm : Int} (ht : D1.time = D2.time) (f1 : K.Fit D1 v p) (f2 : K.Fit D2 v p) (hv : v.halted = false) (a1 : alarm < 18446744073709551615) (t0 : 0 ≤ D1.time) (ha : K.ie v.core = true → alarm ≤ K.cmp v.core.csr) :
    ∀ (f : Nat) {a b : PMach} {n : Int}, K.Runs D1 v p alarm a n → K.Runs D2 v p alarm b n → K.Win 0 p.base (p.base + p.size) a b →
      (K.untl f a n).isSome = true → ∃ a' b' m, K.Runs D1 v p alarm a' m ∧ K.Runs D2 v p alarm b' m ∧ K.Win 0 p.base (p.base + p.size) a' b' ∧ (K.step a').2.cause ≠ 0 ∧ (K.step a').2 = (K.step b').2 ∧ K.untl f a n = some ((K.step a').1, m, (K.step a').2, a'.time) ∧ K.untl f b n = some ((K.step b').1, m, (K.step b').2, b'.time)
  | 0, _, _, _, _, _, _, h => by cases h
  | f + 1, a, b, n, R1, R2, W, h => by
    obtain ⟨s1, s2⟩ := twin_step ht R1 R2 W
    rw [untl_succ] at h ⊢
    rw [untl_succ]
    by_cases hz : (K.step a).2.cause = 0
    · have hz2 : (K.step b).2.cause = 0 := by rw [← s1]; exact hz
      rw [if_pos hz] at h ⊢
      rw [if_pos hz2]
      exact untl_twin ht f1 f2 hv a1 t0 ha f (R1.next f1 hv a1 t0 ha hz) (R2.next f2 hv a1 (by omega) ha hz2) (s2 hz) h
    · have hz2 : ¬ (K.step b).2.cause = 0 := by rw [← s1]; exact hz
      rw [if_neg hz] at h ⊢
      rw [if_neg hz2]
      exact ⟨a, b, n, R1, R2, W, hz, s1, rfl, rfl⟩
/-- a turn that runs: where it starts -/
theorem alarm_at {v : PVcpu} {t end_ : Int} (hv : v.halted = false) (hp : K.pending v t = false) (t1 : t < end_) : K.alarm v end_ ≤ end_ ∧ t < K.alarm v end_ ∧ (K.ie v.core = true → K.alarm v end_ ≤ K.cmp v.core.csr) := by
  unfold K.pending at hp
  rw [hv] at hp
  unfold K.alarm
  cases hi : K.ie v.core with
  | false => rw [if_neg (by simp)]; exact ⟨Int.le_refl _, t1, fun h => by cases h⟩
  | true =>
    rw [hi] at hp
    have hq : ¬ t ≥ K.cmp v.core.csr := by simpa using hp
    by_cases hlt : K.cmp v.core.csr < end_
    · rw [if_pos ⟨rfl, hlt⟩]; exact ⟨by omega, by omega, fun _ => Int.le_refl _⟩
    · rw [if_neg (fun q => hlt q.2)]; exact ⟨Int.le_refl _, t1, fun _ => by omega⟩
theorem turn1_twin {h1 h2 : PMach} {v : PVcpu} {p : PPart} {end_ : Int} (g1 : K.Good h1) (g2 : K.Good h2) (c : okCore v.core) (hf : K.vform v = true) (hh1 : h1.halted = false) (hh2 : h2.halted = false) (hv : v.halted = false) (p0 : 0 ≤ p.base) (p1 : 0 ≤ p.size) (pf : p.base + p.size ≤ h1.mem.length) (ms : h1.mem.length ≤ 1073741824)
    (t1 : h1.time < end_) (t2 : end_ ≤ h1.time + 900) (t3 : end_ < 18446744073709550000) (tw : K.Twin p h1 h2) :
    K.Twin p (K.turn1 h1 v p end_).1 (K.turn1 h2 v p end_).1 ∧ (K.turn1 h1 v p end_).2 = (K.turn1 h2 v p end_).2 := by
  obtain ⟨hz0, hd0⟩ := vform_zero hf
  have t0 := g1.t0
  have hpt : K.pending v h2.time = K.pending v h1.time := by rw [tw.time]
  have htw := tw.time
  have hlw := tw.len
  by_cases hp : K.pending v h1.time = true
  · have e1 : K.turn1 h1 v p end_ = (h1, K.inject v h1.time) := by unfold K.turn1; rw [if_pos hp]
    have e2 : K.turn1 h2 v p end_ = (h2, K.inject v h1.time) := by unfold K.turn1; rw [if_pos (hpt.trans hp), ← htw]
    rw [e1, e2]
    exact ⟨tw, rfl⟩
  · have hpf : K.pending v h1.time = false := by simpa using hp
    have h5 := c.csr.u32 (i := 5) (by omega)
    have h6 := c.csr.u32 (i := 6) (by omega)
    have h9 := c.csr.u32 (i := 9) (by omega)
    have h10 := c.csr.u32 (i := 10) (by omega)
    have hcm : 0 ≤ K.cmp v.core.csr := by unfold K.cmp; omega
    obtain ⟨ha1, ha2, ha3⟩ := alarm_at hv hpf t1
    have hpf2 : ¬ K.pending v h2.time = true := by rw [hpt]; exact hp
    have e1 : K.turn1 h1 v p end_ = ((K.until (K.dispatch h1 v p (K.alarm v end_))).1, K.handle { K.save (K.until (K.dispatch h1 v p (K.alarm v end_))).1 v with done := IntKind.i64.wrap (v.done + (K.until (K.dispatch h1 v p (K.alarm v end_))).2.1) } (K.until (K.dispatch h1 v p (K.alarm v end_))).2.2.1 (K.until (K.dispatch h1 v p (K.alarm v end_))).2.2.2) := by unfold K.turn1; rw [if_neg hp]
    have e2 : K.turn1 h2 v p end_ = ((K.until (K.dispatch h2 v p (K.alarm v end_))).1, K.handle { K.save (K.until (K.dispatch h2 v p (K.alarm v end_))).1 v with done := IntKind.i64.wrap (v.done + (K.until (K.dispatch h2 v p (K.alarm v end_))).2.1) } (K.until (K.dispatch h2 v p (K.alarm v end_))).2.2.1 (K.until (K.dispatch h2 v p (K.alarm v end_))).2.2.2) := by unfold K.turn1; rw [if_neg hpf2]
    generalize K.alarm v end_ = alarm at *
    have d1 := dispatch_disp (host := h1) (v := v) (p := p) (alarm := alarm) g1.core.csr.1 (by omega) (by omega) hz0 hh1
    have d2 := dispatch_disp (host := h2) (v := v) (p := p) (alarm := alarm) g2.core.csr.1 (by omega) (by omega) hz0 hh2
    have gd1 := dispatch_good (host := h1) (v := v) (p := p) (alarm := alarm) g1 c p0 p1 (by omega) (by omega) (by omega) (by omega)
    have gd2 := dispatch_good (host := h2) (v := v) (p := p) (alarm := alarm) g2 c p0 p1 (by omega) (by omega) (by omega) (by omega)
    obtain ⟨q1, q2, q3, q4, q5, q6, q7⟩ := dispatch_facts (host := h1) (v := v) (p := p) (alarm := alarm) g1.core.csr.1 p0 p1 (by omega) h5.1 h6.1 (by omega) (by omega)
    obtain ⟨r1, r2, r3, r4, r5, r6, r7⟩ := dispatch_facts (host := h2) (v := v) (p := p) (alarm := alarm) g2.core.csr.1 p0 p1 (by omega) h5.1 h6.1 (by omega) (by omega)
    obtain ⟨_, _, _, _, _, _, _, _, eu, es⟩ := until_facts (D := K.dispatch h1 v p alarm) (k := (alarm - h1.time).toNat) ⟨q5, q1, hh1, rfl, rfl⟩ q2 (by rw [q3]; show alarm ≤ h1.time + _; omega) t0 (by show h1.time + _ + 1 < _; omega) (by omega)
    have f1 : K.Fit (K.dispatch h1 v p alarm) v p := ⟨p0, p1, pf, by show h1.mem.length < 4294967296; omega, h5.1, h6.1⟩
    have f2 : K.Fit (K.dispatch h2 v p alarm) v p := ⟨p0, p1, by show p.base + p.size ≤ h2.mem.length; omega, by show h2.mem.length < 4294967296; omega, h5.1, h6.1⟩
    have W := win_twin d1 d2 f1 f2 ⟨tw.time, tw.len, tw.mem⟩
    obtain ⟨a, b, m, R1, R2, W', hz, hs, u1, u2⟩ := untl_twin (D1 := K.dispatch h1 v p alarm) (D2 := K.dispatch h2 v p alarm) tw.time f1 f2 hv (by omega) t0 ha3 1000 (runs_start d1 gd1 q1 (by show h1.time ≤ alarm; omega)) (runs_start d2 gd2 r1 (by show h2.time ≤ alarm; omega)) W es
    have k1 : K.until (K.dispatch h1 v p alarm) = ((K.step a).1, m, (K.step a).2, a.time) := by unfold K.until; rw [u1]; rfl
    have k2 : K.until (K.dispatch h2 v p alarm) = ((K.step b).1, m, (K.step b).2, b.time) := by unfold K.until; rw [u2]; rfl
    have hz2 : (K.step b).2.cause ≠ 0 := by rw [← hs]; exact hz
    obtain ⟨s1, s2, s3, s4, s5, s6, s7, s8, s9⟩ := step_trapped R1.user.len R1.user.go hz
    obtain ⟨x1, x2, x3, x4, x5, x6, x7, x8, x9⟩ := step_trapped R2.user.len R2.user.go hz2
    have et : a.time = b.time := by rw [R1.time, R2.time]; show h1.time + m = h2.time + m; omega
    have st1 := (step_facts R1.user.len R1.user.go).1
    have st2 := (step_facts R2.user.len R2.user.go).1
    rw [e1, e2, k1, k2]
    have hsv : K.save (K.step a).1 v = K.save (K.step b).1 v := by
      unfold K.save; rw [s6, x6, s3, x3, W'.regs, W'.pc]
    refine ⟨⟨by show (K.step a).1.time = (K.step b).1.time; rw [st1, st2, et], ?_, fun i i0 i1 => ?_⟩, ?_⟩
    · show (K.step a).1.mem.length = (K.step b).1.mem.length
      rw [s7, x7, R1.only.len, R2.only.len]; exact tw.len
    · show (K.step a).1.mem.getD i.toNat 0 = (K.step b).1.mem.getD i.toNat 0
      rw [s7, x7]
      have := W'.mem i i0 i1
      rw [Int.add_zero] at this; exact this
    · simp only [hsv, hs, et]
theorem turnF_twin {p : PPart} {v0 : PVcpu} {end_ : Int} (p0 : 0 ≤ p.base) (p1 : 0 ≤ p.size) (t3 : end_ < 18446744073709550000) {h10 h20 : PMach} (hh1 : h10.halted = false) (hh2 : h20.halted = false) (pf1 : p.base + p.size ≤ h10.mem.length) (ms1 : h10.mem.length ≤ 1073741824) (pf2 : p.base + p.size ≤ h20.mem.length) (ms2 : h20.mem.length ≤ 1073741824) (t1 : end_ ≤ h10.time + 900) (t2 : end_ ≤ h20.time + 900) (hd : v0.done ≤ 2305843009213693952) :
    ∀ (f : Nat) {h1 h2 : PMach} {w : PVcpu}, K.SliceInv p h10 v0 end_ h1 w → K.SliceInv p h20 v0 end_ h2 w → K.Twin p h1 h2 →
      K.Twin p (K.turnF p end_ f h1 w).1 (K.turnF p end_ f h2 w).1 ∧ (K.turnF p end_ f h1 w).2 = (K.turnF p end_ f h2 w).2
  | 0, _, _, _, _, _, tw => ⟨tw, rfl⟩
  | f + 1, h1, h2, w, I1, I2, tw => by
    unfold K.turnF
    by_cases hx : w.halted = true ∨ h1.time ≥ end_
    · rw [if_pos hx, if_pos (by rw [← tw.time]; exact hx)]
      exact ⟨tw, rfl⟩
    · rw [if_neg hx, if_neg (by rw [← tw.time]; exact hx)]
      have hv : w.halted = false := by
        cases hq : w.halted with
        | false => rfl
        | true => exact absurd (.inl hq) hx
      have ht : h1.time < end_ := by
        have : ¬ h1.time ≥ end_ := fun q => hx (.inr q)
        omega
      have i1 := I1.turns.time
      have i2 := I2.turns.time
      have htw := tw.time
      obtain ⟨n1, n2⟩ := turn1_twin (p := p) (end_ := end_) I1.good I2.good I1.core I1.form (I1.turns.hgo.trans hh1) (I2.turns.hgo.trans hh2) hv p0 p1 (by rw [I1.turns.only.len]; exact pf1) (by rw [I1.turns.only.len]; exact ms1) ht (by omega) t3 tw
      have J1 := I1.next hh1 p0 p1 pf1 ms1 t1 t3 hd hv ht
      have J2 := I2.next hh2 p0 p1 pf2 ms2 t2 t3 hd hv (by omega)
      rw [← n2] at J2 ⊢
      exact turnF_twin p0 p1 t3 hh1 hh2 pf1 ms1 pf2 ms2 t1 t2 hd f J1 J2 n1




/-! Kone -/
theorem slice_fin (host : PMach) (v : PVcpu) (p : PPart) (q : Int) : K.slice host v p q = (⟨⟨List.replicate 16 0, 0, (K.turnF p (K.deadline host q) 1000 host v).1.core.csr.set 0 1⟩, (K.turnF p (K.deadline host q) 1000 host v).1.mem, (K.turnF p (K.deadline host q) 1000 host v).1.time, (K.turnF p (K.deadline host q) 1000 host v).1.out, (K.turnF p (K.deadline host q) 1000 host v).1.halted⟩, (K.turnF p (K.deadline host q) 1000 host v).2) := rfl
theorem slice_start {host : PMach} {v : PVcpu} {p : PPart} {end_ : Int} (g : K.Good host) (c : okCore v.core) (hf : K.vform v = true) (h1 : host.time ≤ end_) : K.SliceInv p host v end_ host v := by
  have hi : (if K.pending v host.time = true then (1 : Int) else 0) ≤ 1 := by split <;> omega
  exact ⟨.refl _ _ _, g, c, hf, by omega, .inl ⟨rfl, rfl⟩, by omega⟩
/-- the least quantum -/
theorem slice_one {host : PMach} {v : PVcpu} {p : PPart} {q : Int} (g : K.Good host) (c : okCore v.core) (hf : K.vform v = true) (hh : host.halted = false) (hv : v.halted = false) (p0 : 0 ≤ p.base) (p1 : 0 ≤ p.size) (pf : p.base + p.size ≤ host.mem.length) (ms : host.mem.length ≤ 1073741824) (ht : host.time ≤ 4611686018427387904) (hq : q ≤ 1) (hd : v.done ≤ 2305843009213693952) :
    host.time < (K.slice host v p q).1.time ∧ (K.slice host v p q).1.time ≤ host.time + 2 ∧
    ((K.slice host v p q).2.done = v.done + 1 ∨ ((K.slice host v p q).2.done = v.done + 2 ∧ v.log.length < (K.slice host v p q).2.log.length ∧ ((K.slice host v p q).2.log.getD v.log.length ⟨0, 0, 0⟩).kind = 1)) := by
  have t0 := g.t0
  have hdl : K.deadline host q = host.time + 1 := by unfold K.deadline; omega
  have stop : ∀ (f : Nat) (h : PMach) (w : PVcpu), host.time + 1 ≤ h.time → K.turnF p (host.time + 1) f h w = (h, w) := fun f h w hx => by
    cases f with
    | zero => rfl
    | succ f => unfold K.turnF; rw [if_pos (.inr hx)]
  have go : ∀ (f : Nat) (w : PVcpu), w.halted = false → K.turnF p (host.time + 1) (f + 1) host w = K.turnF p (host.time + 1) f (K.turn1 host w p (host.time + 1)).1 (K.turn1 host w p (host.time + 1)).2 := fun f w hw => by
    rw [show K.turnF p (host.time + 1) (f + 1) host w = (if w.halted = true ∨ host.time ≥ host.time + 1 then (host, w) else K.turnF p (host.time + 1) f (K.turn1 host w p (host.time + 1)).1 (K.turn1 host w p (host.time + 1)).2) from rfl, if_neg]
    rintro (h | h)
    · rw [hw] at h; cases h
    · omega
  rw [slice_fin, hdl]
  obtain ⟨a1, a2, a3, a4, a5⟩ := turn1_turns (p := p) (end_ := host.time + 1) g c hf hh hv p0 p1 pf ms (by omega) (by omega) (by omega) (by omega)
  rw [show (1000 : Nat) = 998 + 1 + 1 from rfl, go _ _ hv]
  rcases a5 with ⟨c1, c2⟩ | ⟨c1, c2, c3, c4, c5, c6⟩
  · have hinc : (K.inject v host.time).done = v.done + 1 := by
      show K.inc v.done = _
      unfold K.inc; rw [if_neg (by omega)]
    rw [c2] at a1 a2 a3 a4 ⊢
    rw [go 998 (K.inject v host.time) hv]
    obtain ⟨b1, b2, b3, b4, b5⟩ := turn1_turns (v := K.inject v host.time) (p := p) (end_ := host.time + 1) g a3 a4 hh hv p0 p1 pf ms (by omega) (by omega) (by omega) (by omega)
    rcases b5 with ⟨d1, d2⟩ | ⟨d1, d2, d3, d4, d5, d6⟩
    · rw [pending_inject c] at d1; cases d1
    · rw [stop _ _ _ (by omega)]
      refine ⟨d2, by show (K.turn1 host (K.inject v host.time) p (host.time + 1)).1.time ≤ _; omega, .inr ⟨by show (K.turn1 host (K.inject v host.time) p (host.time + 1)).2.done = _; omega, ?_⟩⟩
      obtain ⟨l, l1, _⟩ := b1.log
      have hl : (K.turn1 host (K.inject v host.time) p (host.time + 1)).2.log = v.log ++ (⟨1, v.done, host.time⟩ :: l) := by rw [l1]; show v.log ++ [_] ++ l = _; rw [List.append_assoc]; rfl
      show v.log.length < (K.turn1 host (K.inject v host.time) p (host.time + 1)).2.log.length ∧ ((K.turn1 host (K.inject v host.time) p (host.time + 1)).2.log.getD v.log.length ⟨0, 0, 0⟩).kind = 1
      rw [hl]
      refine ⟨by simp, ?_⟩
      simp
  · rw [stop _ _ _ (by omega)]
    exact ⟨c2, by show (K.turn1 host v p (host.time + 1)).1.time ≤ _; omega, .inl (by show (K.turn1 host v p (host.time + 1)).2.done = _; omega)⟩
theorem window_eq {a b : List Int} {base size : Int} (b0 : 0 ≤ base) (hl : a.length = b.length) (hf : base + size ≤ b.length) (h : ∀ i : Int, base ≤ i → i < base + size → a.getD i.toNat 0 = b.getD i.toNat 0) : (a.drop base.toNat).take size.toNat = (b.drop base.toNat).take size.toNat := by
  apply List.ext_getElem?
  intro i
  rw [List.getElem?_take, List.getElem?_take, List.getElem?_drop, List.getElem?_drop]
  by_cases hi : i < size.toNat
  · rw [if_pos hi, if_pos hi]
    have := h (base + i) (by omega) (by omega)
    rw [show (base + (i : Int)).toNat = base.toNat + i by omega] at this
    rw [List.getElem?_eq_getElem (by omega), List.getElem?_eq_getElem (by omega)]
    rw [List.getD_eq_getElem?_getD, List.getD_eq_getElem?_getD, List.getElem?_eq_getElem (by omega), List.getElem?_eq_getElem (by omega)] at this
    simpa using this
  · rw [if_neg hi, if_neg hi]
theorem slice_twin {host x : PMach} {v : PVcpu} {p : PPart} {q : Int} (g : K.Good host) (gx : K.Good x) (c : okCore v.core) (hf : K.vform v = true) (hh : host.halted = false) (hx : x.halted = false) (p0 : 0 ≤ p.base) (p1 : 0 ≤ p.size) (pf : p.base + p.size ≤ host.mem.length) (ms : host.mem.length ≤ 1073741824) (ht : host.time ≤ 4611686018427387904) (hq : q ≤ 60) (hd : v.done ≤ 2305843009213693952) (tw : K.Twin p host x) :
    K.Twin p (K.slice host v p q).1 (K.slice x v p q).1 ∧ (K.slice host v p q).2 = (K.slice x v p q).2 := by
  have t0 := g.t0
  have hdl : K.deadline host q = host.time + max q 1 := by unfold K.deadline; omega
  have hdx : K.deadline x q = K.deadline host q := by unfold K.deadline; rw [tw.time]
  have htw := tw.time
  have hlw := tw.len
  have ix : K.SliceInv p x v (K.deadline host q) x v := slice_start gx c hf (by omega)
  obtain ⟨n1, n2⟩ := turnF_twin p0 p1 (by omega) hh hx pf ms (by omega) (by omega) (by omega) (by omega) hd 1000 (slice_start (p := p) (end_ := K.deadline host q) g c hf (by omega)) ix tw
  rw [slice_fin, slice_fin, hdx]
  exact ⟨⟨n1.time, n1.len, n1.mem⟩, n2⟩
theorem exec_lens (m : PMach) (i : PInstr) : (K.exec m i).1.mem.length = m.mem.length ∧ (K.exec m i).1.out = m.out := ⟨exec_len m i, (exec_same m i).2.1⟩
theorem plain_lens (m : PMach) : (K.plain m).1.mem.length = m.mem.length ∧ (K.plain m).1.out.length ≤ m.out.length + 1 := by
  unfold K.plain
  split
  · exact ⟨rfl, Nat.le_succ _⟩
  split
  · exact ⟨rfl, Nat.le_succ _⟩
  split
  · refine ⟨by show (K.priv m _).mem.length = _; rw [K.priv_mem], ?_⟩
    show (K.priv m _).out.length ≤ _
    rw [K.priv_out]; split <;> simp
  · have e := exec_lens m (K.cur m).1
    exact ⟨e.1, by show (K.exec m _).1.out.length ≤ _; rw [e.2]; omega⟩
theorem step_lens (m : PMach) : (K.step m).1.mem.length = m.mem.length ∧ (K.step m).1.out.length ≤ m.out.length + 1 := by
  unfold K.step
  split
  · exact ⟨rfl, Nat.le_succ _⟩
  · exact plain_lens m
theorem rep_lens {log : List PEvent} : ∀ (n : Nat) (i : Int) {m : PMach} {seen : Nat} {last : Int} {z : PMach × Nat × Int}, K.rep log n i (m, seen, last) = some z → z.1.out.length ≤ m.out.length + n ∧ z.2.1 ≤ seen + n ∧ z.1.mem.length = m.mem.length
  | 0, i, m, seen, last, z, h => by
    simp only [K.rep] at h
    cases h
    exact ⟨Nat.le_refl _, Nat.le_refl _, rfl⟩
  | n + 1, i, m, seen, last, z, h => by
    obtain ⟨_, h⟩ := rep_cases h
    rcases h with ⟨_, _, h⟩ | ⟨_, _, h⟩
    · obtain ⟨a, b, c⟩ := rep_lens n (i + 1) h
      have := plain_lens m
      exact ⟨by omega, by omega, by rw [c, this.1]⟩
    · rcases h with ⟨_, _, h⟩ | ⟨_, h⟩
      · obtain ⟨a, b, c⟩ := rep_lens n (i + 1) h
        have : _ ∧ (K.step (K.timed m (log.getD seen ⟨0, 0, 0⟩).time)).1.out.length ≤ m.out.length + 1 := step_lens (K.timed m (log.getD seen ⟨0, 0, 0⟩).time)
        exact ⟨by omega, by omega, by rw [c, this.1]; rfl⟩
      · obtain ⟨a, b, c⟩ := rep_lens n (i + 1) h
        have : _ ∧ (K.plain (K.timed m (log.getD seen ⟨0, 0, 0⟩).time)).1.out.length ≤ m.out.length + 1 := plain_lens (K.timed m (log.getD seen ⟨0, 0, 0⟩).time)
        exact ⟨by omega, by omega, by rw [c, this.1]; rfl⟩
theorem turns_host {p : PPart} {h0 h h2 : PMach} {v0 w : PVcpu} (t : K.Turns p h0 v0 h w) (e1 : h2.mem = h.mem) (e2 : h2.time = h.time) (e3 : h2.out = h.out) (e4 : h2.halted = h.halted) : K.Turns p h0 v0 h2 w :=
  ⟨t.out, t.log, t.done, by rw [e1]; exact t.only, by rw [e2]; exact t.time, e3.trans t.hout, e4.trans t.hgo, fun T0 last0 hl => by
    obtain ⟨T, last, a, b⟩ := t.rep T0 last0 hl
    refine ⟨T, last, by rw [e2]; exact a, b.trans ?_⟩
    unfold K.bare; rw [e1]⟩
/-- a time slice, from the host and the guest that it starts with to those that it leaves -/
structure K.SliceOf (host : PMach) (v : PVcpu) (p : PPart) (q : Int) (h : PMach) (w : PVcpu) : Prop where
  turns : K.Turns p host v h w
  good : K.Good h
  core : okCore w.core
  form : K.vform w = true
  go : h.halted = false
  clear : h.core.regs = List.replicate 16 0 ∧ h.core.pc = 0 ∧ h.core.csr.getD 0 0 = 1
  le : h.time ≤ host.time + max q 1 + 1
  fin : w.halted = true ∨ host.time + max q 1 ≤ h.time
  idle : v.halted = true → w = v ∧ h.mem = host.mem ∧ h.time = host.time
  run : v.halted = false → v.done < w.done
  steps : w.done ≤ v.done + 2 * max q 1 + 3
  few : w.out.length ≤ v.out.length + 200 ∧ w.log.length ≤ v.log.length + 200
theorem slice_of {host : PMach} {v : PVcpu} {p : PPart} {q : Int} (g : K.Good host) (c : okCore v.core) (hf : K.vform v = true) (hh : host.halted = false) (p0 : 0 ≤ p.base) (p1 : 0 ≤ p.size) (pf : p.base + p.size ≤ host.mem.length) (ms : host.mem.length ≤ 1073741824) (ht : host.time ≤ 4611686018427387904) (hq : q ≤ 60) (hd : v.done ≤ 2305843009213693952) :
    K.SliceOf host v p q (K.slice host v p q).1 (K.slice host v p q).2 := by
  have t0 := g.t0
  have hdl : K.deadline host q = host.time + max q 1 := by unfold K.deadline; omega
  obtain ⟨h', w, e, I, hx, hi, hr⟩ := slice_inv g c hf hh p0 p1 pf ms ht hq hd
  rw [e]
  have hl := I.good.core.csr.1
  have hm := I.meas
  have hle := I.le
  rw [hdl] at hm hle
  have hst : w.done ≤ v.done + 2 * max q 1 + 3 := by split at hm <;> omega
  have z : (0 : Int) ≤ 0 ∧ (0 : Int) < 4294967296 := by omega
  obtain ⟨T, last, _, hrep⟩ := I.turns.rep 0 host.time (Int.le_refl _)
  obtain ⟨f1, f2, _⟩ := rep_lens _ _ hrep
  have hdn := I.turns.done
  refine ⟨turns_host I.turns rfl rfl rfl rfl, ⟨⟨⟨by simp, fun x hx => by rw [(List.mem_replicate.1 hx).2]; exact mkI_u32 z.1 z.2⟩, mkI_u32 z.1 z.2, I.good.core.csr.set (mkI_u32 (by omega) (by omega))⟩, I.good.mem, I.good.t0, I.good.t1⟩, I.core, I.form, I.turns.hgo.trans hh, ⟨rfl, rfl, ?_⟩, hle, ?_, fun hv => ?_, fun hv => (hr hv).1, hst, ?_⟩
  · show (h'.core.csr.set 0 1).getD 0 0 = 1
    rw [K.set_at (by omega), if_pos rfl]
  · rw [hdl] at hx; exact hx
  · obtain ⟨a, b⟩ := hi hv
    exact ⟨b, by rw [a], by rw [a]⟩
  · have f1 : w.out.length ≤ v.out.length + (w.done - v.done).toNat := f1
    have f2 : w.log.length ≤ v.log.length + (w.done - v.done).toNat := f2
    exact ⟨by show w.out.length ≤ _; omega, by show w.log.length ≤ _; omega⟩
theorem good_of {m : PMach} (h : okMach m) : K.Good m := ⟨h.core, bytes_ok h.mem, (okI_u64 h.time).1, (okI_u64 h.time).2⟩
theorem slice_q {host : PMach} {v : PVcpu} {p : PPart} {q r : Int} (h : K.deadline host q = K.deadline host r) : K.slice host v p q = K.slice host v p r := by unfold K.slice; rw [h]




/-! base -/
def ety : TypeId → Option ETy
| 5 => some .u8
| 4 => some .bool
| 3 => some .i64
| 22 => some .u32
| 9 => some .str
| 47 => some .event
| 49 => some .trap
| 62 => some .instr
| 33 => some .vcpu
  | _ => none
def globs (g : Nat) : Option (List SV) := none
noncomputable def EB : Env := { P := Tryz.prog, ety := ety, glob := globs, spec := fun _ => none, callee := fun f => Nat.ble 3 f && Nat.ble f 190 }
def gl_0 : List SV := [.b false, .b false, .b false, .b false, .b false, .b true, .b true, .b true, .b false, .b false, .b true, .b true, .b false, .b true, .b false, .b true, .b false, .b false, .b true, .b false, .b false, .b false, .b false, .b false, .b false, .b true, .b false, .b false, .b false, .b true, .b false, .b true, .b false, .b false, .b true, .b false, .b true, .b false, .b false, .b false]
def gl_1 : List SV := [.arr .i64 26 [0, 1, 1, 1, 1, 1, 1, 1, 1, 2, 3, 2, 2, 2, 2, 2, 2, 2, 3, 2, 4, 5, 6, 4, 4, 7]]
def gl_2 : List SV := [.v (.int .i64 0), .v (.int .u32 0)]
def globs_1 (g : Nat) : Option (List SV) := bif Nat.beq g 1 then some gl_1 else none
noncomputable def EB_1 : Env := { P := Tryz.prog, ety := ety, glob := globs_1, spec := fun _ => none, callee := fun f => Nat.ble 3 f && Nat.ble f 190 }
def globs_2 (g : Nat) : Option (List SV) := bif Nat.beq g 2 then some gl_2 else none
noncomputable def EB_2 : Env := { P := Tryz.prog, ety := ety, glob := globs_2, spec := fun _ => none, callee := fun f => Nat.ble 3 f && Nat.ble f 190 }
def globs_0_1 (g : Nat) : Option (List SV) := bif Nat.beq g 0 then some gl_0 else bif Nat.beq g 1 then some gl_1 else none
noncomputable def EB_0_1 : Env := { P := Tryz.prog, ety := ety, glob := globs_0_1, spec := fun _ => none, callee := fun f => Nat.ble 3 f && Nat.ble f 190 }
def globs_1_2 (g : Nat) : Option (List SV) := bif Nat.beq g 1 then some gl_1 else bif Nat.beq g 2 then some gl_2 else none
noncomputable def EB_1_2 : Env := { P := Tryz.prog, ety := ety, glob := globs_1_2, spec := fun _ => none, callee := fun f => Nat.ble 3 f && Nat.ble f 190 }
def globs_0_1_2 (g : Nat) : Option (List SV) := bif Nat.beq g 0 then some gl_0 else bif Nat.beq g 1 then some gl_1 else bif Nat.beq g 2 then some gl_2 else none
noncomputable def EB_0_1_2 : Env := { P := Tryz.prog, ety := ety, glob := globs_0_1_2, spec := fun _ => none, callee := fun f => Nat.ble 3 f && Nat.ble f 190 }

theorem okEB : EnvOk EB := ⟨by kernel_rfl, (fun f S h => by cases h), callees_of (P := Tryz.prog) (by kernel_rfl)⟩
theorem okEB_1 : EnvOk EB_1 := ⟨okEB.mixed, (fun f S h => by cases h), okEB.callee⟩
theorem okEB_2 : EnvOk EB_2 := ⟨okEB.mixed, (fun f S h => by cases h), okEB.callee⟩
theorem okEB_0_1 : EnvOk EB_0_1 := ⟨okEB.mixed, (fun f S h => by cases h), okEB.callee⟩
theorem okEB_1_2 : EnvOk EB_1_2 := ⟨okEB.mixed, (fun f S h => by cases h), okEB.callee⟩
theorem okEB_0_1_2 : EnvOk EB_0_1_2 := ⟨okEB.mixed, (fun f S h => by cases h), okEB.callee⟩
theorem up_to_1 {f : FuncId} {S : Spec} (h : SpecOk EB f S) : SpecOk EB_1 f S := SpecOk.globs (B := EB) (C := EB_1) rfl (fun g cs e => by
  cases e) h
theorem up_to_2 {f : FuncId} {S : Spec} (h : SpecOk EB f S) : SpecOk EB_2 f S := SpecOk.globs (B := EB) (C := EB_2) rfl (fun g cs e => by
  cases e) h
theorem up_to_0_1 {f : FuncId} {S : Spec} (h : SpecOk EB f S) : SpecOk EB_0_1 f S := SpecOk.globs (B := EB) (C := EB_0_1) rfl (fun g cs e => by
  cases e) h
theorem up_to_1_2 {f : FuncId} {S : Spec} (h : SpecOk EB f S) : SpecOk EB_1_2 f S := SpecOk.globs (B := EB) (C := EB_1_2) rfl (fun g cs e => by
  cases e) h
theorem up_to_0_1_2 {f : FuncId} {S : Spec} (h : SpecOk EB f S) : SpecOk EB_0_1_2 f S := SpecOk.globs (B := EB) (C := EB_0_1_2) rfl (fun g cs e => by
  cases e) h
theorem up_1_to_0_1 {f : FuncId} {S : Spec} (h : SpecOk EB_1 f S) : SpecOk EB_0_1 f S := SpecOk.globs (B := EB_1) (C := EB_0_1) rfl (fun g cs e => by
  have e : globs_1 g = some cs := e
  show globs_0_1 g = some cs
  unfold globs_1 at e
  cases hb : Nat.beq g 1 with
  | true => rw [hb] at e; cases e; rw [Nat.eq_of_beq_eq_true hb]; rfl
  | false =>
  rw [hb] at e; simp only [cond_false] at e; clear hb
  cases e) h
theorem up_1_to_1_2 {f : FuncId} {S : Spec} (h : SpecOk EB_1 f S) : SpecOk EB_1_2 f S := SpecOk.globs (B := EB_1) (C := EB_1_2) rfl (fun g cs e => by
  have e : globs_1 g = some cs := e
  show globs_1_2 g = some cs
  unfold globs_1 at e
  cases hb : Nat.beq g 1 with
  | true => rw [hb] at e; cases e; rw [Nat.eq_of_beq_eq_true hb]; rfl
  | false =>
  rw [hb] at e; simp only [cond_false] at e; clear hb
  cases e) h
theorem up_1_to_0_1_2 {f : FuncId} {S : Spec} (h : SpecOk EB_1 f S) : SpecOk EB_0_1_2 f S := SpecOk.globs (B := EB_1) (C := EB_0_1_2) rfl (fun g cs e => by
  have e : globs_1 g = some cs := e
  show globs_0_1_2 g = some cs
  unfold globs_1 at e
  cases hb : Nat.beq g 1 with
  | true => rw [hb] at e; cases e; rw [Nat.eq_of_beq_eq_true hb]; rfl
  | false =>
  rw [hb] at e; simp only [cond_false] at e; clear hb
  cases e) h
theorem up_2_to_1_2 {f : FuncId} {S : Spec} (h : SpecOk EB_2 f S) : SpecOk EB_1_2 f S := SpecOk.globs (B := EB_2) (C := EB_1_2) rfl (fun g cs e => by
  have e : globs_2 g = some cs := e
  show globs_1_2 g = some cs
  unfold globs_2 at e
  cases hb : Nat.beq g 2 with
  | true => rw [hb] at e; cases e; rw [Nat.eq_of_beq_eq_true hb]; rfl
  | false =>
  rw [hb] at e; simp only [cond_false] at e; clear hb
  cases e) h
theorem up_2_to_0_1_2 {f : FuncId} {S : Spec} (h : SpecOk EB_2 f S) : SpecOk EB_0_1_2 f S := SpecOk.globs (B := EB_2) (C := EB_0_1_2) rfl (fun g cs e => by
  have e : globs_2 g = some cs := e
  show globs_0_1_2 g = some cs
  unfold globs_2 at e
  cases hb : Nat.beq g 2 with
  | true => rw [hb] at e; cases e; rw [Nat.eq_of_beq_eq_true hb]; rfl
  | false =>
  rw [hb] at e; simp only [cond_false] at e; clear hb
  cases e) h
theorem up_0_1_to_0_1_2 {f : FuncId} {S : Spec} (h : SpecOk EB_0_1 f S) : SpecOk EB_0_1_2 f S := SpecOk.globs (B := EB_0_1) (C := EB_0_1_2) rfl (fun g cs e => by
  have e : globs_0_1 g = some cs := e
  show globs_0_1_2 g = some cs
  unfold globs_0_1 at e
  cases hb : Nat.beq g 0 with
  | true => rw [hb] at e; cases e; rw [Nat.eq_of_beq_eq_true hb]; rfl
  | false =>
  rw [hb] at e; simp only [cond_false] at e; clear hb
  cases hb : Nat.beq g 1 with
  | true => rw [hb] at e; cases e; rw [Nat.eq_of_beq_eq_true hb]; rfl
  | false =>
  rw [hb] at e; simp only [cond_false] at e; clear hb
  cases e) h
theorem up_1_2_to_0_1_2 {f : FuncId} {S : Spec} (h : SpecOk EB_1_2 f S) : SpecOk EB_0_1_2 f S := SpecOk.globs (B := EB_1_2) (C := EB_0_1_2) rfl (fun g cs e => by
  have e : globs_1_2 g = some cs := e
  show globs_0_1_2 g = some cs
  unfold globs_1_2 at e
  cases hb : Nat.beq g 1 with
  | true => rw [hb] at e; cases e; rw [Nat.eq_of_beq_eq_true hb]; rfl
  | false =>
  rw [hb] at e; simp only [cond_false] at e; clear hb
  cases hb : Nat.beq g 2 with
  | true => rw [hb] at e; cases e; rw [Nat.eq_of_beq_eq_true hb]; rfl
  | false =>
  rw [hb] at e; simp only [cond_false] at e; clear hb
  cases e) h

/-! ref02_May -/

def S_ref02_May : Spec := sig [.instr] [.b] (fun (i, _) => K.may i)
noncomputable def E_ref02_May : Env := EB.adds []

theorem ok_ref02_May : EnvOk E_ref02_May := okEB.adds (l := _) trivial
theorem t_c_ref02_May_0 (rd ra rb imm : Int) : evF E_ref02_May 60 50 [.agg (instrC ⟨0, rd, ra, rb, imm⟩)] = Tree.leaf (SV.b false) := by kernel_rfl
theorem t_c_ref02_May_1 (rd ra rb imm : Int) : evF E_ref02_May 60 50 [.agg (instrC ⟨1, rd, ra, rb, imm⟩)] = bif (decide (rd ≥ (0 : Int))) then (bif (decide (rd ≤ (15 : Int))) then (bif (decide (ra ≥ (0 : Int))) then (bif (decide (ra ≤ (15 : Int))) then (bif (decide (rb ≥ (0 : Int))) then (bif (decide (rb ≤ (15 : Int))) then (bif (BEq.beq imm (0 : Int)) then (Tree.leaf (SV.b true)) else (Tree.leaf (SV.b false))) else (Tree.leaf (SV.b false))) else (Tree.leaf (SV.b false))) else (Tree.leaf (SV.b false))) else (Tree.leaf (SV.b false))) else (Tree.leaf (SV.b false))) else (Tree.leaf (SV.b false)) := by kernel_rfl
theorem t_c_ref02_May_2 (rd ra rb imm : Int) : evF E_ref02_May 60 50 [.agg (instrC ⟨2, rd, ra, rb, imm⟩)] = bif (decide (rd ≥ (0 : Int))) then (bif (decide (rd ≤ (15 : Int))) then (bif (decide (ra ≥ (0 : Int))) then (bif (decide (ra ≤ (15 : Int))) then (bif (decide (rb ≥ (0 : Int))) then (bif (decide (rb ≤ (15 : Int))) then (bif (BEq.beq imm (0 : Int)) then (Tree.leaf (SV.b true)) else (Tree.leaf (SV.b false))) else (Tree.leaf (SV.b false))) else (Tree.leaf (SV.b false))) else (Tree.leaf (SV.b false))) else (Tree.leaf (SV.b false))) else (Tree.leaf (SV.b false))) else (Tree.leaf (SV.b false)) := by kernel_rfl
theorem t_c_ref02_May_3 (rd ra rb imm : Int) : evF E_ref02_May 60 50 [.agg (instrC ⟨3, rd, ra, rb, imm⟩)] = bif (decide (rd ≥ (0 : Int))) then (bif (decide (rd ≤ (15 : Int))) then (bif (decide (ra ≥ (0 : Int))) then (bif (decide (ra ≤ (15 : Int))) then (bif (decide (rb ≥ (0 : Int))) then (bif (decide (rb ≤ (15 : Int))) then (bif (BEq.beq imm (0 : Int)) then (Tree.leaf (SV.b true)) else (Tree.leaf (SV.b false))) else (Tree.leaf (SV.b false))) else (Tree.leaf (SV.b false))) else (Tree.leaf (SV.b false))) else (Tree.leaf (SV.b false))) else (Tree.leaf (SV.b false))) else (Tree.leaf (SV.b false)) := by kernel_rfl
theorem t_c_ref02_May_4 (rd ra rb imm : Int) : evF E_ref02_May 60 50 [.agg (instrC ⟨4, rd, ra, rb, imm⟩)] = bif (decide (rd ≥ (0 : Int))) then (bif (decide (rd ≤ (15 : Int))) then (bif (decide (ra ≥ (0 : Int))) then (bif (decide (ra ≤ (15 : Int))) then (bif (decide (rb ≥ (0 : Int))) then (bif (decide (rb ≤ (15 : Int))) then (bif (BEq.beq imm (0 : Int)) then (Tree.leaf (SV.b true)) else (Tree.leaf (SV.b false))) else (Tree.leaf (SV.b false))) else (Tree.leaf (SV.b false))) else (Tree.leaf (SV.b false))) else (Tree.leaf (SV.b false))) else (Tree.leaf (SV.b false))) else (Tree.leaf (SV.b false)) := by kernel_rfl
theorem t_c_ref02_May_5 (rd ra rb imm : Int) : evF E_ref02_May 60 50 [.agg (instrC ⟨5, rd, ra, rb, imm⟩)] = bif (decide (rd ≥ (0 : Int))) then (bif (decide (rd ≤ (15 : Int))) then (bif (decide (ra ≥ (0 : Int))) then (bif (decide (ra ≤ (15 : Int))) then (bif (decide (rb ≥ (0 : Int))) then (bif (decide (rb ≤ (15 : Int))) then (bif (BEq.beq imm (0 : Int)) then (Tree.leaf (SV.b true)) else (Tree.leaf (SV.b false))) else (Tree.leaf (SV.b false))) else (Tree.leaf (SV.b false))) else (Tree.leaf (SV.b false))) else (Tree.leaf (SV.b false))) else (Tree.leaf (SV.b false))) else (Tree.leaf (SV.b false)) := by kernel_rfl
theorem t_c_ref02_May_6 (rd ra rb imm : Int) : evF E_ref02_May 60 50 [.agg (instrC ⟨6, rd, ra, rb, imm⟩)] = bif (decide (rd ≥ (0 : Int))) then (bif (decide (rd ≤ (15 : Int))) then (bif (decide (ra ≥ (0 : Int))) then (bif (decide (ra ≤ (15 : Int))) then (bif (decide (rb ≥ (0 : Int))) then (bif (decide (rb ≤ (15 : Int))) then (bif (BEq.beq imm (0 : Int)) then (Tree.leaf (SV.b true)) else (Tree.leaf (SV.b false))) else (Tree.leaf (SV.b false))) else (Tree.leaf (SV.b false))) else (Tree.leaf (SV.b false))) else (Tree.leaf (SV.b false))) else (Tree.leaf (SV.b false))) else (Tree.leaf (SV.b false)) := by kernel_rfl
theorem t_c_ref02_May_7 (rd ra rb imm : Int) : evF E_ref02_May 60 50 [.agg (instrC ⟨7, rd, ra, rb, imm⟩)] = bif (decide (rd ≥ (0 : Int))) then (bif (decide (rd ≤ (15 : Int))) then (bif (decide (ra ≥ (0 : Int))) then (bif (decide (ra ≤ (15 : Int))) then (bif (decide (rb ≥ (0 : Int))) then (bif (decide (rb ≤ (15 : Int))) then (bif (BEq.beq imm (0 : Int)) then (Tree.leaf (SV.b true)) else (Tree.leaf (SV.b false))) else (Tree.leaf (SV.b false))) else (Tree.leaf (SV.b false))) else (Tree.leaf (SV.b false))) else (Tree.leaf (SV.b false))) else (Tree.leaf (SV.b false))) else (Tree.leaf (SV.b false)) := by kernel_rfl
theorem t_c_ref02_May_8 (rd ra rb imm : Int) : evF E_ref02_May 60 50 [.agg (instrC ⟨8, rd, ra, rb, imm⟩)] = bif (decide (rd ≥ (0 : Int))) then (bif (decide (rd ≤ (15 : Int))) then (bif (decide (ra ≥ (0 : Int))) then (bif (decide (ra ≤ (15 : Int))) then (bif (decide (rb ≥ (0 : Int))) then (bif (decide (rb ≤ (15 : Int))) then (bif (BEq.beq imm (0 : Int)) then (Tree.leaf (SV.b true)) else (Tree.leaf (SV.b false))) else (Tree.leaf (SV.b false))) else (Tree.leaf (SV.b false))) else (Tree.leaf (SV.b false))) else (Tree.leaf (SV.b false))) else (Tree.leaf (SV.b false))) else (Tree.leaf (SV.b false)) := by kernel_rfl
theorem t_c_ref02_May_9 (rd ra rb imm : Int) : evF E_ref02_May 60 50 [.agg (instrC ⟨9, rd, ra, rb, imm⟩)] = bif (decide (rd ≥ (0 : Int))) then (bif (decide (rd ≤ (15 : Int))) then (bif (decide (ra ≥ (0 : Int))) then (bif (decide (ra ≤ (15 : Int))) then (bif (BEq.beq rb (0 : Int)) then (bif (decide ((IntKind.wrap IntKind.i64 imm) ≥ (-131072 : Int))) then (bif (decide ((IntKind.wrap IntKind.i64 imm) < (131072 : Int))) then (Tree.leaf (SV.b true)) else (Tree.leaf (SV.b false))) else (Tree.leaf (SV.b false))) else (Tree.leaf (SV.b false))) else (Tree.leaf (SV.b false))) else (Tree.leaf (SV.b false))) else (Tree.leaf (SV.b false))) else (Tree.leaf (SV.b false)) := by kernel_rfl
theorem t_c_ref02_May_10 (rd ra rb imm : Int) : evF E_ref02_May 60 50 [.agg (instrC ⟨10, rd, ra, rb, imm⟩)] = bif (decide (rd ≥ (0 : Int))) then (bif (decide (rd ≤ (15 : Int))) then (bif (BEq.beq ra (0 : Int)) then (bif (BEq.beq rb (0 : Int)) then (bif (decide ((IntKind.wrap IntKind.i64 imm) ≥ (-131072 : Int))) then (bif (decide ((IntKind.wrap IntKind.i64 imm) < (131072 : Int))) then (Tree.leaf (SV.b true)) else (Tree.leaf (SV.b false))) else (Tree.leaf (SV.b false))) else (Tree.leaf (SV.b false))) else (Tree.leaf (SV.b false))) else (Tree.leaf (SV.b false))) else (Tree.leaf (SV.b false)) := by kernel_rfl
theorem t_c_ref02_May_11 (rd ra rb imm : Int) : evF E_ref02_May 60 50 [.agg (instrC ⟨11, rd, ra, rb, imm⟩)] = bif (decide (rd ≥ (0 : Int))) then (bif (decide (rd ≤ (15 : Int))) then (bif (decide (ra ≥ (0 : Int))) then (bif (decide (ra ≤ (15 : Int))) then (bif (BEq.beq rb (0 : Int)) then (bif (decide ((IntKind.wrap IntKind.i64 imm) ≥ (-131072 : Int))) then (bif (decide ((IntKind.wrap IntKind.i64 imm) < (131072 : Int))) then (Tree.leaf (SV.b true)) else (Tree.leaf (SV.b false))) else (Tree.leaf (SV.b false))) else (Tree.leaf (SV.b false))) else (Tree.leaf (SV.b false))) else (Tree.leaf (SV.b false))) else (Tree.leaf (SV.b false))) else (Tree.leaf (SV.b false)) := by kernel_rfl
theorem t_c_ref02_May_12 (rd ra rb imm : Int) : evF E_ref02_May 60 50 [.agg (instrC ⟨12, rd, ra, rb, imm⟩)] = bif (decide (rd ≥ (0 : Int))) then (bif (decide (rd ≤ (15 : Int))) then (bif (decide (ra ≥ (0 : Int))) then (bif (decide (ra ≤ (15 : Int))) then (bif (BEq.beq rb (0 : Int)) then (bif (decide ((IntKind.wrap IntKind.i64 imm) ≥ (-131072 : Int))) then (bif (decide ((IntKind.wrap IntKind.i64 imm) < (131072 : Int))) then (Tree.leaf (SV.b true)) else (Tree.leaf (SV.b false))) else (Tree.leaf (SV.b false))) else (Tree.leaf (SV.b false))) else (Tree.leaf (SV.b false))) else (Tree.leaf (SV.b false))) else (Tree.leaf (SV.b false))) else (Tree.leaf (SV.b false)) := by kernel_rfl
theorem t_c_ref02_May_13 (rd ra rb imm : Int) : evF E_ref02_May 60 50 [.agg (instrC ⟨13, rd, ra, rb, imm⟩)] = bif (decide (rd ≥ (0 : Int))) then (bif (decide (rd ≤ (15 : Int))) then (bif (decide (ra ≥ (0 : Int))) then (bif (decide (ra ≤ (15 : Int))) then (bif (BEq.beq rb (0 : Int)) then (bif (decide ((IntKind.wrap IntKind.i64 imm) ≥ (-131072 : Int))) then (bif (decide ((IntKind.wrap IntKind.i64 imm) < (131072 : Int))) then (Tree.leaf (SV.b true)) else (Tree.leaf (SV.b false))) else (Tree.leaf (SV.b false))) else (Tree.leaf (SV.b false))) else (Tree.leaf (SV.b false))) else (Tree.leaf (SV.b false))) else (Tree.leaf (SV.b false))) else (Tree.leaf (SV.b false)) := by kernel_rfl
theorem t_c_ref02_May_14 (rd ra rb imm : Int) : evF E_ref02_May 60 50 [.agg (instrC ⟨14, rd, ra, rb, imm⟩)] = bif (decide (rd ≥ (0 : Int))) then (bif (decide (rd ≤ (15 : Int))) then (bif (decide (ra ≥ (0 : Int))) then (bif (decide (ra ≤ (15 : Int))) then (bif (BEq.beq rb (0 : Int)) then (bif (decide ((IntKind.wrap IntKind.i64 imm) ≥ (-131072 : Int))) then (bif (decide ((IntKind.wrap IntKind.i64 imm) < (131072 : Int))) then (Tree.leaf (SV.b true)) else (Tree.leaf (SV.b false))) else (Tree.leaf (SV.b false))) else (Tree.leaf (SV.b false))) else (Tree.leaf (SV.b false))) else (Tree.leaf (SV.b false))) else (Tree.leaf (SV.b false))) else (Tree.leaf (SV.b false)) := by kernel_rfl
theorem t_c_ref02_May_15 (rd ra rb imm : Int) : evF E_ref02_May 60 50 [.agg (instrC ⟨15, rd, ra, rb, imm⟩)] = bif (decide (rd ≥ (0 : Int))) then (bif (decide (rd ≤ (15 : Int))) then (bif (decide (ra ≥ (0 : Int))) then (bif (decide (ra ≤ (15 : Int))) then (bif (BEq.beq rb (0 : Int)) then (bif (decide ((IntKind.wrap IntKind.i64 imm) ≥ (-131072 : Int))) then (bif (decide ((IntKind.wrap IntKind.i64 imm) < (131072 : Int))) then (Tree.leaf (SV.b true)) else (Tree.leaf (SV.b false))) else (Tree.leaf (SV.b false))) else (Tree.leaf (SV.b false))) else (Tree.leaf (SV.b false))) else (Tree.leaf (SV.b false))) else (Tree.leaf (SV.b false))) else (Tree.leaf (SV.b false)) := by kernel_rfl
theorem t_c_ref02_May_16 (rd ra rb imm : Int) : evF E_ref02_May 60 50 [.agg (instrC ⟨16, rd, ra, rb, imm⟩)] = bif (decide (rd ≥ (0 : Int))) then (bif (decide (rd ≤ (15 : Int))) then (bif (decide (ra ≥ (0 : Int))) then (bif (decide (ra ≤ (15 : Int))) then (bif (BEq.beq rb (0 : Int)) then (bif (decide ((IntKind.wrap IntKind.i64 imm) ≥ (-131072 : Int))) then (bif (decide ((IntKind.wrap IntKind.i64 imm) < (131072 : Int))) then (Tree.leaf (SV.b true)) else (Tree.leaf (SV.b false))) else (Tree.leaf (SV.b false))) else (Tree.leaf (SV.b false))) else (Tree.leaf (SV.b false))) else (Tree.leaf (SV.b false))) else (Tree.leaf (SV.b false))) else (Tree.leaf (SV.b false)) := by kernel_rfl
theorem t_c_ref02_May_17 (rd ra rb imm : Int) : evF E_ref02_May 60 50 [.agg (instrC ⟨17, rd, ra, rb, imm⟩)] = bif (decide (rd ≥ (0 : Int))) then (bif (decide (rd ≤ (15 : Int))) then (bif (decide (ra ≥ (0 : Int))) then (bif (decide (ra ≤ (15 : Int))) then (bif (BEq.beq rb (0 : Int)) then (bif (decide ((IntKind.wrap IntKind.i64 imm) ≥ (-131072 : Int))) then (bif (decide ((IntKind.wrap IntKind.i64 imm) < (131072 : Int))) then (Tree.leaf (SV.b true)) else (Tree.leaf (SV.b false))) else (Tree.leaf (SV.b false))) else (Tree.leaf (SV.b false))) else (Tree.leaf (SV.b false))) else (Tree.leaf (SV.b false))) else (Tree.leaf (SV.b false))) else (Tree.leaf (SV.b false)) := by kernel_rfl
theorem t_c_ref02_May_18 (rd ra rb imm : Int) : evF E_ref02_May 60 50 [.agg (instrC ⟨18, rd, ra, rb, imm⟩)] = bif (decide (rd ≥ (0 : Int))) then (bif (decide (rd ≤ (15 : Int))) then (bif (BEq.beq ra (0 : Int)) then (bif (BEq.beq rb (0 : Int)) then (bif (decide ((IntKind.wrap IntKind.i64 imm) ≥ (-131072 : Int))) then (bif (decide ((IntKind.wrap IntKind.i64 imm) < (131072 : Int))) then (Tree.leaf (SV.b true)) else (Tree.leaf (SV.b false))) else (Tree.leaf (SV.b false))) else (Tree.leaf (SV.b false))) else (Tree.leaf (SV.b false))) else (Tree.leaf (SV.b false))) else (Tree.leaf (SV.b false)) := by kernel_rfl
theorem t_c_ref02_May_19 (rd ra rb imm : Int) : evF E_ref02_May 60 50 [.agg (instrC ⟨19, rd, ra, rb, imm⟩)] = bif (decide (rd ≥ (0 : Int))) then (bif (decide (rd ≤ (15 : Int))) then (bif (decide (ra ≥ (0 : Int))) then (bif (decide (ra ≤ (15 : Int))) then (bif (BEq.beq rb (0 : Int)) then (bif (decide ((IntKind.wrap IntKind.i64 imm) ≥ (-131072 : Int))) then (bif (decide ((IntKind.wrap IntKind.i64 imm) < (131072 : Int))) then (Tree.leaf (SV.b true)) else (Tree.leaf (SV.b false))) else (Tree.leaf (SV.b false))) else (Tree.leaf (SV.b false))) else (Tree.leaf (SV.b false))) else (Tree.leaf (SV.b false))) else (Tree.leaf (SV.b false))) else (Tree.leaf (SV.b false)) := by kernel_rfl
theorem t_c_ref02_May_20 (rd ra rb imm : Int) : evF E_ref02_May 60 50 [.agg (instrC ⟨20, rd, ra, rb, imm⟩)] = bif (BEq.beq rd (0 : Int)) then (bif (BEq.beq ra (0 : Int)) then (bif (BEq.beq rb (0 : Int)) then (bif (BEq.beq imm (0 : Int)) then (Tree.leaf (SV.b true)) else (Tree.leaf (SV.b false))) else (Tree.leaf (SV.b false))) else (Tree.leaf (SV.b false))) else (Tree.leaf (SV.b false)) := by kernel_rfl
theorem t_c_ref02_May_21 (rd ra rb imm : Int) : evF E_ref02_May 60 50 [.agg (instrC ⟨21, rd, ra, rb, imm⟩)] = bif (decide (rd ≥ (0 : Int))) then (bif (decide (rd ≤ (15 : Int))) then (bif (BEq.beq ra (0 : Int)) then (bif (BEq.beq rb (0 : Int)) then (bif (decide (imm ≥ (0 : Int))) then (bif (decide (imm ≤ (11 : Int))) then (Tree.leaf (SV.b true)) else (Tree.leaf (SV.b false))) else (Tree.leaf (SV.b false))) else (Tree.leaf (SV.b false))) else (Tree.leaf (SV.b false))) else (Tree.leaf (SV.b false))) else (Tree.leaf (SV.b false)) := by kernel_rfl
theorem t_c_ref02_May_22 (rd ra rb imm : Int) : evF E_ref02_May 60 50 [.agg (instrC ⟨22, rd, ra, rb, imm⟩)] = bif (BEq.beq rd (0 : Int)) then (bif (decide (ra ≥ (0 : Int))) then (bif (decide (ra ≤ (15 : Int))) then (bif (BEq.beq rb (0 : Int)) then (bif (decide (imm ≥ (0 : Int))) then (bif (decide (imm ≤ (11 : Int))) then (Tree.leaf (SV.b true)) else (Tree.leaf (SV.b false))) else (Tree.leaf (SV.b false))) else (Tree.leaf (SV.b false))) else (Tree.leaf (SV.b false))) else (Tree.leaf (SV.b false))) else (Tree.leaf (SV.b false)) := by kernel_rfl
theorem t_c_ref02_May_23 (rd ra rb imm : Int) : evF E_ref02_May 60 50 [.agg (instrC ⟨23, rd, ra, rb, imm⟩)] = bif (BEq.beq rd (0 : Int)) then (bif (BEq.beq ra (0 : Int)) then (bif (BEq.beq rb (0 : Int)) then (bif (BEq.beq imm (0 : Int)) then (Tree.leaf (SV.b true)) else (Tree.leaf (SV.b false))) else (Tree.leaf (SV.b false))) else (Tree.leaf (SV.b false))) else (Tree.leaf (SV.b false)) := by kernel_rfl
theorem t_c_ref02_May_24 (rd ra rb imm : Int) : evF E_ref02_May 60 50 [.agg (instrC ⟨24, rd, ra, rb, imm⟩)] = bif (BEq.beq rd (0 : Int)) then (bif (BEq.beq ra (0 : Int)) then (bif (BEq.beq rb (0 : Int)) then (bif (BEq.beq imm (0 : Int)) then (Tree.leaf (SV.b true)) else (Tree.leaf (SV.b false))) else (Tree.leaf (SV.b false))) else (Tree.leaf (SV.b false))) else (Tree.leaf (SV.b false)) := by kernel_rfl
theorem t_c_ref02_May_25 (rd ra rb imm : Int) : evF E_ref02_May 60 50 [.agg (instrC ⟨25, rd, ra, rb, imm⟩)] = bif (BEq.beq rd (0 : Int)) then (bif (decide (ra ≥ (0 : Int))) then (bif (decide (ra ≤ (15 : Int))) then (bif (BEq.beq rb (0 : Int)) then (bif (BEq.beq imm (0 : Int)) then (Tree.leaf (SV.b true)) else (Tree.leaf (SV.b false))) else (Tree.leaf (SV.b false))) else (Tree.leaf (SV.b false))) else (Tree.leaf (SV.b false))) else (Tree.leaf (SV.b false)) := by kernel_rfl
theorem t_c_ref02_May_n (m : Nat) (rd ra rb imm : Int) : evF E_ref02_May 60 50 [.agg (instrC ⟨.negSucc m, rd, ra, rb, imm⟩)] = .leaf (.b false) := by kernel_rfl
theorem t_c_ref02_May_o (m : Nat) (rd ra rb imm : Int) : evF E_ref02_May 60 50 [.agg (instrC ⟨.ofNat (m + 26), rd, ra, rb, imm⟩)] = .leaf (.b false) := by kernel_rfl
theorem a_c_ref02_May (i : PInstr) (ok_i : okInstr i) : (evF E_ref02_May 60 50 [.agg (instrC i)]).ends fun out_ => decO [.b] out_ = some (K.may i) := by
  obtain ⟨op, rd, ra, rb, imm⟩ := i
  obtain ⟨im0, im1⟩ := okI_i32 ok_i.imm
  have ew : IntKind.i64.wrap imm = imm := wrapI64 (by simp only at im0; omega) (by simp only at im1; omega)
  clear ok_i im0 im1
  have out : (op < 0 ∨ 26 ≤ op) → K.form op = 0 := fun h => by unfold K.form; (repeat' split) <;> first | rfl | omega
  rcases op_cases op with ⟨m, rfl⟩ | ⟨m, rfl⟩ | rfl | rfl | rfl | rfl | rfl | rfl | rfl | rfl | rfl | rfl | rfl | rfl | rfl | rfl | rfl | rfl | rfl | rfl | rfl | rfl | rfl | rfl | rfl | rfl | rfl | rfl 
  · rw [t_c_ref02_May_n, Tree.ends_holds]; simp only [Tree.holds_loop, Tree.holds_fork, Tree.holds_next, if_true, Tree.holds_cond, Tree.holds_letv, Tree.holds_leaf, Tree.holds_fail, decO, decA, decTup, decMach, decCore, decTrap, decInstr, decPart, decGuest, decConf, decEvent, decVcpu, decStep, bytesS, boolS, eventsS, intsS, guestsS, vcpusS, rowS, castL, Option.bind_some, Option.map_some, Option.some.injEq, Nat.beq_refl, beq_self_eq_true, Bool.and_self, cond_true, cond_false, eq_self, K.may, out (.inl (Int.negSucc_lt_zero m))]; rfl
  · rw [t_c_ref02_May_o, Tree.ends_holds]; simp only [Tree.holds_loop, Tree.holds_fork, Tree.holds_next, if_true, Tree.holds_cond, Tree.holds_letv, Tree.holds_leaf, Tree.holds_fail, decO, decA, decTup, decMach, decCore, decTrap, decInstr, decPart, decGuest, decConf, decEvent, decVcpu, decStep, bytesS, boolS, eventsS, intsS, guestsS, vcpusS, rowS, castL, Option.bind_some, Option.map_some, Option.some.injEq, Nat.beq_refl, beq_self_eq_true, Bool.and_self, cond_true, cond_false, eq_self, K.may, out (.inr (show (26 : Int) ≤ Int.ofNat (m + 26) by simp; omega))]; rfl
  all_goals (first | rw [t_c_ref02_May_0] | rw [t_c_ref02_May_1] | rw [t_c_ref02_May_2] | rw [t_c_ref02_May_3] | rw [t_c_ref02_May_4] | rw [t_c_ref02_May_5] | rw [t_c_ref02_May_6] | rw [t_c_ref02_May_7] | rw [t_c_ref02_May_8] | rw [t_c_ref02_May_9] | rw [t_c_ref02_May_10] | rw [t_c_ref02_May_11] | rw [t_c_ref02_May_12] | rw [t_c_ref02_May_13] | rw [t_c_ref02_May_14] | rw [t_c_ref02_May_15] | rw [t_c_ref02_May_16] | rw [t_c_ref02_May_17] | rw [t_c_ref02_May_18] | rw [t_c_ref02_May_19] | rw [t_c_ref02_May_20] | rw [t_c_ref02_May_21] | rw [t_c_ref02_May_22] | rw [t_c_ref02_May_23] | rw [t_c_ref02_May_24] | rw [t_c_ref02_May_25] )
  all_goals (rw [Tree.ends_holds]; simp only [Tree.holds_loop, Tree.holds_fork, Tree.holds_next, if_true, Tree.holds_cond, Tree.holds_letv, Tree.holds_leaf, Tree.holds_fail, decO, decA, decTup, decMach, decCore, decTrap, decInstr, decPart, decGuest, decConf, decEvent, decVcpu, decStep, bytesS, boolS, eventsS, intsS, guestsS, vcpusS, rowS, castL, Option.bind_some, Option.map_some, Option.some.injEq, Nat.beq_refl, beq_self_eq_true, Bool.and_self, cond_true, cond_false, eq_self, beq_iff_eq, beq_eq_false_iff_ne, bne_iff_ne, bne_eq_false_iff_eq, ne_eq, decide_eq_true_eq, decide_eq_false_iff_not, ble_true, ble_false, inRange_iff, inRange_false, K.may, form_0 , form_1 , form_2 , form_3 , form_4 , form_5 , form_6 , form_7 , form_8 , form_9 , form_10 , form_11 , form_12 , form_13 , form_14 , form_15 , form_16 , form_17 , form_18 , form_19 , form_20 , form_21 , form_22 , form_23 , form_24 , form_25 , K.regOk, ew]; clear out)
  all_goals (repeat' (first | refine drop_ok ?_ | intro _ | with_reducible apply And.intro))
  all_goals grind
theorem c_ref02_May : SpecOk EB 50 S_ref02_May := spec_sig ok_ref02_May (n := 60) fun ⟨i, ⟨⟩⟩ h hok => a_c_ref02_May i (ok_instr (okSL_head hok))

/-! ref02_Form -/

def S_ref02_Form : Spec := sig [.i .i64] [.i .i64] (fun (op, _) => K.form op)
noncomputable def E_ref02_Form : Env := EB.adds []

theorem ok_ref02_Form : EnvOk E_ref02_Form := okEB.adds (l := _) trivial
theorem t_ref02_Form (op : Int) : evF E_ref02_Form 60 52 (encArgs [.i .i64] (op, ())) = bif (BEq.beq op (1 : Int)) then (Tree.leaf (SV.v (Value.int IntKind.i64 (1 : Int)))) else (bif (BEq.beq op (2 : Int)) then (Tree.leaf (SV.v (Value.int IntKind.i64 (1 : Int)))) else (bif (BEq.beq op (3 : Int)) then (Tree.leaf (SV.v (Value.int IntKind.i64 (1 : Int)))) else (bif (BEq.beq op (4 : Int)) then (Tree.leaf (SV.v (Value.int IntKind.i64 (1 : Int)))) else (bif (BEq.beq op (5 : Int)) then (Tree.leaf (SV.v (Value.int IntKind.i64 (1 : Int)))) else (bif (BEq.beq op (6 : Int)) then (Tree.leaf (SV.v (Value.int IntKind.i64 (1 : Int)))) else (bif (BEq.beq op (7 : Int)) then (Tree.leaf (SV.v (Value.int IntKind.i64 (1 : Int)))) else (bif (BEq.beq op (8 : Int)) then (Tree.leaf (SV.v (Value.int IntKind.i64 (1 : Int)))) else (bif (BEq.beq op (9 : Int)) then (Tree.leaf (SV.v (Value.int IntKind.i64 (2 : Int)))) else (bif (BEq.beq op (11 : Int)) then (Tree.leaf (SV.v (Value.int IntKind.i64 (2 : Int)))) else (bif (BEq.beq op (12 : Int)) then (Tree.leaf (SV.v (Value.int IntKind.i64 (2 : Int)))) else (bif (BEq.beq op (13 : Int)) then (Tree.leaf (SV.v (Value.int IntKind.i64 (2 : Int)))) else (bif (BEq.beq op (14 : Int)) then (Tree.leaf (SV.v (Value.int IntKind.i64 (2 : Int)))) else (bif (BEq.beq op (15 : Int)) then (Tree.leaf (SV.v (Value.int IntKind.i64 (2 : Int)))) else (bif (BEq.beq op (16 : Int)) then (Tree.leaf (SV.v (Value.int IntKind.i64 (2 : Int)))) else (bif (BEq.beq op (17 : Int)) then
 (Tree.leaf (SV.v (Value.int IntKind.i64 (2 : Int)))) else (bif (BEq.beq op (19 : Int)) then (Tree.leaf (SV.v (Value.int IntKind.i64 (2 : Int)))) else (bif (BEq.beq op (10 : Int)) then (Tree.leaf (SV.v (Value.int IntKind.i64 (3 : Int)))) else (bif (BEq.beq op (18 : Int)) then (Tree.leaf (SV.v (Value.int IntKind.i64 (3 : Int)))) else (bif (BEq.beq op (20 : Int)) then (Tree.leaf (SV.v (Value.int IntKind.i64 (4 : Int)))) else (bif (BEq.beq op (23 : Int)) then (Tree.leaf (SV.v (Value.int IntKind.i64 (4 : Int)))) else (bif (BEq.beq op (24 : Int)) then (Tree.leaf (SV.v (Value.int IntKind.i64 (4 : Int)))) else (bif (BEq.beq op (21 : Int)) then (Tree.leaf (SV.v (Value.int IntKind.i64 (5 : Int)))) else (bif (BEq.beq op (22 : Int)) then (Tree.leaf (SV.v (Value.int IntKind.i64 (6 : Int)))) else (bif (BEq.beq op (25 : Int)) then (Tree.leaf (SV.v (Value.int IntKind.i64 (7 : Int)))) else (Tree.leaf (SV.v (Value.int IntKind.i64 (0 : Int)))))))))))))))))))))))))))) := by kernel_rfl
section
attribute [local irreducible] evF evFL evFLs
theorem a_ref02_Form (op : Int) (ok_op : okI .i64 op) : (evF E_ref02_Form 60 52 (encArgs [.i .i64] (op, ()))).ends fun out_ => decO [.i .i64] out_ = some (K.form op) := by
  rw [t_ref02_Form, Tree.ends_holds]
  simp only [Tree.holds_loop, Tree.holds_fork, Tree.holds_next, if_true, Tree.holds_cond, Tree.holds_letv, Tree.holds_leaf, Tree.holds_fail, decO, decA, decTup, decMach, decCore, decTrap, decInstr, decPart, decGuest, decConf, decEvent, decVcpu, decStep, bytesS, boolS, eventsS, intsS, guestsS, vcpusS, rowS, castL, Option.bind_some, Option.map_some, Option.some.injEq, Nat.beq_refl, beq_self_eq_true, Bool.and_self, cond_true, cond_false, eq_self, beq_iff_eq, beq_eq_false_iff_ne, bne_iff_ne, bne_eq_false_iff_eq, ne_eq, decide_eq_true_eq, decide_eq_false_iff_not, ble_true, ble_false, inRange_iff, inRange_false]
  repeat' (first | refine drop_ok ?_ | intro _ | with_reducible apply And.intro)
  all_goals first | (subst_vars; rfl) | (unfold K.form; (repeat' split) <;> first | rfl | omega)
  
theorem c_ref02_Form : SpecOk EB 52 S_ref02_Form := spec_sig ok_ref02_Form (n := 60) fun ⟨op, ⟨⟩⟩ h hok => a_ref02_Form op (ok_int (okSL_head hok))
end

/-! ref01_Pow -/
@[reducible] def L_ref01_Pow (n : Int) : LoopSpec where
  σ := Nat
  slots := [0, 3, 4]
  keys := []
  vals := fun j => [.v (.int .i64 n), .v (.int .u64 ((2 ^ j : Nat) : Int)), .v (.int .i64 (j : Int))]
  blks := fun _ => []
  inv := fun j => j ≤ n.toNat
  mu := fun j => n.toNat - j
def S_ref01_Pow : Spec := sig [.i .i64] [.i .u64] (fun (n, _) => K.pow n) (pre := fun (n, _) => decide (n ≤ 63))
noncomputable def E_ref01_Pow : Env := EB.adds []

theorem ok_ref01_Pow : EnvOk E_ref01_Pow := okEB.adds (l := _) trivial
theorem t_ref01_Pow (n : Int) : evFL E_ref01_Pow (fun _ => some (L_ref01_Pow n)) 60 92 (encArgs [.i .i64] (n, ())) = Tree.loop 0 (L_ref01_Pow n) [(SV.v (Value.int IntKind.i64 n)), (SV.v (Value.int IntKind.u64 (1 : Int))), (SV.v (Value.int IntKind.i64 (0 : Int)))] [] fun (x0 : Nat) => (bif (decide ((Int.ofNat x0) < n)) then ((Tree.next 0 [(SV.v (Value.int IntKind.i64 n)), (SV.v (Value.int IntKind.u64 (IntKind.wrap IntKind.u64 ((Int.ofNat (2 ^ x0)) * (2 : Int))))), (SV.v (Value.int IntKind.i64 (IntKind.wrap IntKind.i64 ((Int.ofNat x0) + (1 : Int)))))] [])) else (Tree.leaf (SV.v (Value.int IntKind.u64 (Int.ofNat (2 ^ x0)))))) := by kernel_rfl
section
attribute [local irreducible] evF evFL evFLs
theorem a_ref01_Pow (n : Int) (hpre : n ≤ 63) (ok_n : okI .i64 n) : (evFL E_ref01_Pow (fun _ => some (L_ref01_Pow n)) 60 92 (encArgs [.i .i64] (n, ()))).ends fun out_ => decO [.i .u64] out_ = some (K.pow n) := by
  rw [t_ref01_Pow, Tree.ends_holds]
  simp only [Tree.holds_loop]
  refine ⟨⟨(0 : Nat), rfl, rfl, Nat.zero_le _, trivial⟩, fun (j : Nat) (hj : j ≤ n.toNat) => ?_⟩
  simp only [Tree.holds_loop, Tree.holds_fork, Tree.holds_next, if_true, Tree.holds_cond, Tree.holds_letv, Tree.holds_leaf, Tree.holds_fail]
  have h63 := pow63 (j := j) (by omega)
  refine ⟨fun h => ⟨j + 1, ?_, rfl, ?_, ?_⟩, fun h => ?_⟩
  · have h : (j : Int) < n := by simpa using h
    have h2 := pow63 (j := j + 1) (by omega)
    have e1 : IntKind.u64.wrap (((2 ^ j : Nat) : Int) * 2) = ((2 ^ (j + 1) : Nat) : Int) := by rw [wrap64, Nat.pow_succ] at *; omega
    have e2 : IntKind.i64.wrap ((j : Int) + 1) = ((j + 1 : Nat) : Int) := by rw [wrapI64 (by omega) (by omega)]; rfl
    show _ = [SV.v (.int .i64 n), .v (.int .u64 ((2 ^ (j + 1) : Nat) : Int)), .v (.int .i64 ((j + 1 : Nat) : Int))]
    rw [← e1, ← e2]; rfl
  · have h : (j : Int) < n := by simpa using h
    show j + 1 ≤ n.toNat; omega
  · have h : (j : Int) < n := by simpa using h
    show n.toNat - (j + 1) < n.toNat - j; omega
  · have h : n ≤ (j : Int) := by simpa using h
    have : j = n.toNat := by omega
    subst this; rfl
  
theorem c_ref01_Pow : SpecOk EB 92 S_ref01_Pow := spec_sigL ok_ref01_Pow (n := 60) (fun (n, _) => fun _ => some (L_ref01_Pow n)) fun ⟨n, ⟨⟩⟩ h hok => a_ref01_Pow n (of_decide_eq_true h) (ok_int (okSL_head hok))
end

/-! ref01_Low -/

def S_ref01_Low : Spec := sig [.i .i32, .i .i64] [.i .u32] (fun (v, n, _) => v % 262144) (pre := fun (v, n, _) => decide (n = 18))
noncomputable def E_ref01_Low : Env := EB.adds [(92, S_ref01_Pow)]

theorem ok_ref01_Low : EnvOk E_ref01_Low := okEB.adds (l := _) ⟨c_ref01_Pow, trivial⟩
theorem t_ref01_Low (v : Int) (n : Int) : evF E_ref01_Low 60 51 (encArgs [.i .i32, .i .i64] (v, n, ())) = bif (decide ((IntKind.wrap IntKind.i64 v) < (0 : Int))) then (bif (decide (n ≤ (63 : Int))) then (Tree.letv (okO [(AT.i IntKind.u64)]) (K.pow n) fun x0 => (bif (bne x0 (0 : Int)) then (Tree.leaf (SV.v (Value.int IntKind.u32 (IntKind.wrap IntKind.u32 (Int.tmod (IntKind.wrap IntKind.u64 (IntKind.wrap IntKind.i64 ((IntKind.wrap IntKind.i64 v) + (4294967296 : Int)))) x0))))) else (Tree.fail))) else (Tree.fail)) else (bif (decide (n ≤ (63 : Int))) then (Tree.letv (okO [(AT.i IntKind.u64)]) (K.pow n) fun x0 => (bif (bne x0 (0 : Int)) then (Tree.leaf (SV.v (Value.int IntKind.u32 (IntKind.wrap IntKind.u32 (Int.tmod (IntKind.wrap IntKind.u64 (IntKind.wrap IntKind.i64 v)) x0))))) else (Tree.fail))) else (Tree.fail)) := by kernel_rfl
section
attribute [local irreducible] evF evFL evFLs
theorem a_ref01_Low (v : Int) (n : Int) (hpre : n = 18) (ok_v : okI .i32 v) (ok_n : okI .i64 n) : (evF E_ref01_Low 60 51 (encArgs [.i .i32, .i .i64] (v, n, ()))).ends fun out_ => decO [.i .u32] out_ = some (v % 262144) := by
  rw [t_ref01_Low, Tree.ends_holds]
  obtain ⟨v0, v1⟩ := okI_i32 ok_v
  subst hpre
  have e0 : IntKind.i64.wrap v = v := wrapI64 (by omega) (by omega)
  have e1 : K.pow 18 = 262144 := by decide
  have e3 : IntKind.i64.wrap (v + 4294967296) = v + 4294967296 := wrapI64 (by omega) (by omega)
  simp only [Tree.holds_loop, Tree.holds_fork, Tree.holds_next, if_true, Tree.holds_cond, Tree.holds_letv, Tree.holds_leaf, Tree.holds_fail, decO, decA, decTup, decMach, decCore, decTrap, decInstr, decPart, decGuest, decConf, decEvent, decVcpu, decStep, bytesS, boolS, eventsS, intsS, guestsS, vcpusS, rowS, castL, Option.bind_some, Option.map_some, Option.some.injEq, Nat.beq_refl, beq_self_eq_true, Bool.and_self, cond_true, cond_false, eq_self, beq_iff_eq, beq_eq_false_iff_ne, bne_iff_ne, bne_eq_false_iff_eq, ne_eq, decide_eq_true_eq, decide_eq_false_iff_not, ble_true, ble_false, inRange_iff, inRange_false, e0, e1, e3, wrap32, wrap64]
  have t1 : Int.tmod (v % 18446744073709551616) 262144 % 4294967296 = v % 262144 := by rw [Int.tmod_eq_emod_of_nonneg (by omega)]; omega
  have t2 : Int.tmod ((v + 4294967296) % 18446744073709551616) 262144 % 4294967296 = v % 262144 := by rw [Int.tmod_eq_emod_of_nonneg (by omega)]; omega
  simp only [t1, t2]
  repeat' (first | refine drop_ok ?_ | intro _ | with_reducible apply And.intro)
  all_goals first | omega | (simp_all; done)
  
theorem c_ref01_Low : SpecOk EB 51 S_ref01_Low := spec_sig ok_ref01_Low (n := 60) fun ⟨v, n, ⟨⟩⟩ h hok => a_ref01_Low v n (of_decide_eq_true h) (ok_int (okSL_head hok)) (ok_int (okSL_head (okSL_tail hok)))
end

/-! ref02_Encode -/

def S_ref02_Encode : Spec := sig [.instr] [.i .u32, .b] (fun (i, _) => K.encode i)
noncomputable def E_ref02_Encode : Env := EB.adds [(50, S_ref02_May), (52, S_ref02_Form), (51, S_ref01_Low)]

theorem ok_ref02_Encode : EnvOk E_ref02_Encode := okEB.adds (l := _) ⟨c_ref02_May, c_ref02_Form, c_ref01_Low, trivial⟩
theorem t_ref02_Encode (i : PInstr) : evF E_ref02_Encode 60 25 (encArgs [.instr] (i, ())) = Tree.letv (okO [AT.b]) (K.may i) fun x0 => (bif x0 then (Tree.letv (okO [(AT.i IntKind.u32)]) (i.imm % (262144 : Int)) fun x1 => (Tree.letv (okO [(AT.i IntKind.i64)]) (K.form i.op) fun x2 => (bif (BEq.beq x2 (1 : Int)) then (Tree.leaf (SV.tup [(SV.v (Value.int IntKind.u32 (IntKind.wrap IntKind.u32 (IntKind.wrap IntKind.u64 ((IntKind.wrap IntKind.u64 ((IntKind.wrap IntKind.u64 ((IntKind.wrap IntKind.u64 ((IntKind.wrap IntKind.u64 i.op) * (67108864 : Int))) + (IntKind.wrap IntKind.u64 ((IntKind.wrap IntKind.u64 i.rd) * (4194304 : Int))))) + (IntKind.wrap IntKind.u64 ((IntKind.wrap IntKind.u64 i.ra) * (262144 : Int))))) + (IntKind.wrap IntKind.u64 i.rb)))))), (SV.b true)])) else (Tree.leaf (SV.tup [(SV.v (Value.int IntKind.u32 (IntKind.wrap IntKind.u32 (IntKind.wrap IntKind.u64 ((IntKind.wrap IntKind.u64 ((IntKind.wrap IntKind.u64 ((IntKind.wrap IntKind.u64 ((IntKind.wrap IntKind.u64 i.op) * (67108864 : Int))) + (IntKind.wrap IntKind.u64 ((IntKind.wrap IntKind.u64 i.rd) * (4194304 : Int))))) + (IntKind.wrap IntKind.u64 ((IntKind.wrap IntKind.u64 i.ra) * (262144 : Int))))) + (IntKind.wrap IntKind.u64 x1)))))), (SV.b true)]))))) else (Tree.leaf (SV.tup [(SV.v (Value.int IntKind.u32 (0 : Int))), (SV.b false)]))) := by kernel_rfl
section
attribute [local irreducible] evF evFL evFLs
theorem a_ref02_Encode (i : PInstr) (ok_i : okInstr i) : (evF E_ref02_Encode 60 25 (encArgs [.instr] (i, ()))).ends fun out_ => decO [.i .u32, .b] out_ = some (K.encode i) := by
  rw [t_ref02_Encode, Tree.ends_holds]
  simp only [Tree.holds_loop, Tree.holds_fork, Tree.holds_next, if_true, Tree.holds_cond, Tree.holds_letv, Tree.holds_leaf, Tree.holds_fail, decO, decA, decTup, decMach, decCore, decTrap, decInstr, decPart, decGuest, decConf, decEvent, decVcpu, decStep, bytesS, boolS, eventsS, intsS, guestsS, vcpusS, rowS, castL, Option.bind_some, Option.map_some, Option.some.injEq, Nat.beq_refl, beq_self_eq_true, Bool.and_self, cond_true, cond_false, eq_self, beq_iff_eq, beq_eq_false_iff_ne, bne_iff_ne, bne_eq_false_iff_eq, ne_eq, decide_eq_true_eq, decide_eq_false_iff_not, ble_true, ble_false, inRange_iff, inRange_false, wrap32, wrap64]
  unfold K.encode
  have key := fun h => K.may_of (i := i) h
  have pk := fun h => K.word_range (i := i) h
  unfold K.word at *
  repeat' (first | refine drop_ok ?_ | intro _ | with_reducible apply And.intro)
  all_goals first | (rename_i h; rw [if_neg (by simp [h])]; done) | skip
  all_goals
    have hm := key (by assumption)
    have hw := pk hm
    obtain ⟨⟨a, b⟩, ⟨c, d⟩, ⟨e, f⟩, ⟨g, j⟩, ⟨k, l⟩, one, two⟩ := hm
    rw [if_pos (by assumption)]
    simp only [Prod.mk.injEq, and_true]
    clear key pk one two
    by_cases h1 : K.form i.op = 1
    · first | contradiction | (simp only [if_pos h1] at hw ⊢; show @Eq Int _ _; omega)
    · first | contradiction | (simp only [if_neg h1] at hw ⊢; show @Eq Int _ _; omega)
  
theorem c_ref02_Encode : SpecOk EB 25 S_ref02_Encode := spec_sig ok_ref02_Encode (n := 60) fun ⟨i, ⟨⟩⟩ h hok => a_ref02_Encode i (ok_instr (okSL_head hok))
end

/-! timeslice_Deadline -/

def S_timeslice_Deadline : Spec := sig [.mach, .i .i64] [.i .u64] (fun (host, q, _) => K.deadline host q)
noncomputable def E_timeslice_Deadline : Env := EB.adds []

theorem ok_timeslice_Deadline : EnvOk E_timeslice_Deadline := okEB.adds (l := _) trivial
theorem t_timeslice_Deadline (host : PMach) (q : Int) : evF E_timeslice_Deadline 60 15 (encArgs [.mach, .i .i64] (host, q, ())) = Tree.leaf (SV.v (Value.int IntKind.u64 (IntKind.wrap IntKind.u64 (host.time + (IntKind.wrap IntKind.u64 (if ((1 : Int) > q) then (1 : Int) else q)))))) := by kernel_rfl
section
attribute [local irreducible] evF evFL evFLs
theorem a_timeslice_Deadline (host : PMach) (q : Int) (ok_host : okMach host) (ok_q : okI .i64 q) : (evF E_timeslice_Deadline 60 15 (encArgs [.mach, .i .i64] (host, q, ()))).ends fun out_ => decO [.i .u64] out_ = some (K.deadline host q) := by
  rw [t_timeslice_Deadline, Tree.ends_holds]
  obtain ⟨a, b⟩ := okI_i64 ok_q
  simp only [Tree.holds_loop, Tree.holds_fork, Tree.holds_next, if_true, Tree.holds_cond, Tree.holds_letv, Tree.holds_leaf, Tree.holds_fail, decO, decA, decTup, decMach, decCore, decTrap, decInstr, decPart, decGuest, decConf, decEvent, decVcpu, decStep, bytesS, boolS, eventsS, intsS, guestsS, vcpusS, rowS, castL, Option.bind_some, Option.map_some, Option.some.injEq, Nat.beq_refl, beq_self_eq_true, Bool.and_self, cond_true, cond_false, eq_self, beq_iff_eq, beq_eq_false_iff_ne, bne_iff_ne, bne_eq_false_iff_eq, ne_eq, decide_eq_true_eq, decide_eq_false_iff_not, ble_true, ble_false, inRange_iff, inRange_false, K.deadline, wrap64]
  repeat' (first | refine drop_ok ?_ | intro _ | with_reducible apply And.intro)
  all_goals (show @Eq Int _ _; split <;> omega)
  
theorem c_timeslice_Deadline : SpecOk EB 15 S_timeslice_Deadline := spec_sig ok_timeslice_Deadline (n := 60) fun ⟨host, q, ⟨⟩⟩ h hok => a_timeslice_Deadline host q (ok_mach (okSL_head hok)) (ok_int (okSL_head (okSL_tail hok)))
end

/-! trap_InterruptsEnabled -/

def S_trap_InterruptsEnabled : Spec := sig [.core] [.b] (fun (c, _) => K.ie c)
noncomputable def E_trap_InterruptsEnabled : Env := EB.adds []

theorem ok_trap_InterruptsEnabled : EnvOk E_trap_InterruptsEnabled := okEB.adds (l := _) trivial
theorem t_trap_InterruptsEnabled (c : PCore) : evF E_trap_InterruptsEnabled 60 59 (encArgs [.core] (c, ())) = bif (bne (andI IntKind.u32 (List.getD c.csr 0 (0 : Int)) (2 : Int)) (0 : Int)) then (Tree.leaf (SV.b true)) else (Tree.leaf (SV.b false)) := by kernel_rfl
section
attribute [local irreducible] evF evFL evFLs
theorem a_trap_InterruptsEnabled (c : PCore) (ok_c : okCore c) : (evF E_trap_InterruptsEnabled 60 59 (encArgs [.core] (c, ()))).ends fun out_ => decO [.b] out_ = some (K.ie c) := by
  rw [t_trap_InterruptsEnabled, Tree.ends_holds]
  obtain ⟨s0, s1⟩ := ok_c.csr.u32 (i := 0) (by omega)
  simp only [Tree.holds_loop, Tree.holds_fork, Tree.holds_next, if_true, Tree.holds_cond, Tree.holds_letv, Tree.holds_leaf, Tree.holds_fail, decO, decA, decTup, decMach, decCore, decTrap, decInstr, decPart, decGuest, decConf, decEvent, decVcpu, decStep, bytesS, boolS, eventsS, intsS, guestsS, vcpusS, rowS, castL, Option.bind_some, Option.map_some, Option.some.injEq, Nat.beq_refl, beq_self_eq_true, Bool.and_self, cond_true, cond_false, eq_self, beq_iff_eq, beq_eq_false_iff_ne, bne_iff_ne, bne_eq_false_iff_eq, ne_eq, decide_eq_true_eq, decide_eq_false_iff_not, ble_true, ble_false, inRange_iff, inRange_false, K.ie, and_2 s0 s1]
  repeat' (first | refine drop_ok ?_ | intro _ | with_reducible apply And.intro)
  all_goals (simp_all; try omega)
  
theorem c_trap_InterruptsEnabled : SpecOk EB 59 S_trap_InterruptsEnabled := spec_sig ok_trap_InterruptsEnabled (n := 60) fun ⟨c, ⟨⟩⟩ h hok => a_trap_InterruptsEnabled c (ok_core (okSL_head hok))
end

/-! csr_TimerCompare -/

def S_csr_TimerCompare : Spec := sig [.a .u32 12] [.i .u64] (fun (c, _) => K.cmp c)
noncomputable def E_csr_TimerCompare : Env := EB.adds []

theorem ok_csr_TimerCompare : EnvOk E_csr_TimerCompare := okEB.adds (l := _) trivial
theorem t_csr_TimerCompare (c : List Int) : evF E_csr_TimerCompare 60 61 (encArgs [.a .u32 12] (c, ())) = Tree.leaf (SV.v (Value.int IntKind.u64 (orI IntKind.u64 (IntKind.wrap IntKind.u64 ((IntKind.wrap IntKind.u64 (List.getD c 10 (0 : Int))) * (4294967296 : Int))) (IntKind.wrap IntKind.u64 (List.getD c 9 (0 : Int)))))) := by kernel_rfl
section
attribute [local irreducible] evF evFL evFLs
theorem a_csr_TimerCompare (c : List Int) (ok_c : okL .u32 12 c) : (evF E_csr_TimerCompare 60 61 (encArgs [.a .u32 12] (c, ()))).ends fun out_ => decO [.i .u64] out_ = some (K.cmp c) := by
  rw [t_csr_TimerCompare, Tree.ends_holds]
  obtain ⟨a0, a1⟩ := ok_c.u32 (i := 9) (by omega)
  obtain ⟨b0, b1⟩ := ok_c.u32 (i := 10) (by omega)
  simp only [Tree.holds_loop, Tree.holds_fork, Tree.holds_next, if_true, Tree.holds_cond, Tree.holds_letv, Tree.holds_leaf, Tree.holds_fail, decO, decA, decTup, decMach, decCore, decTrap, decInstr, decPart, decGuest, decConf, decEvent, decVcpu, decStep, bytesS, boolS, eventsS, intsS, guestsS, vcpusS, rowS, castL, Option.bind_some, Option.map_some, Option.some.injEq, Nat.beq_refl, beq_self_eq_true, Bool.and_self, cond_true, cond_false, eq_self, K.cmp]
  generalize c.getD 9 0 = a at *
  generalize c.getD 10 0 = b at *
  rw [show IntKind.u64.wrap (IntKind.u64.wrap b * 4294967296) = b * 4294967296 by rw [wrap64, wrap64]; omega, show IntKind.u64.wrap a = a by rw [wrap64]; omega]
  obtain ⟨x, rfl⟩ := Int.eq_ofNat_of_zero_le a0
  obtain ⟨y, rfl⟩ := Int.eq_ofNat_of_zero_le b0
  have e : (y : Int) * 4294967296 = ((2 ^ 32 * y : Nat) : Int) := by rw [Int.natCast_mul, Int.mul_comm]; rfl
  rw [e, or64_nat (by omega) (by omega)]
  have := Nat.two_pow_add_eq_or_of_lt (show x < 2 ^ 32 by omega) y
  rw [← this]; rfl
  
theorem c_csr_TimerCompare : SpecOk EB 61 S_csr_TimerCompare := spec_sig ok_csr_TimerCompare (n := 60) fun ⟨c, ⟨⟩⟩ h hok => a_csr_TimerCompare c (ok_arr (okSL_head hok))
end

/-! vtimer_Pending -/

def S_vtimer_Pending : Spec := sig [.vcpu, .i .u64] [.b] (fun (v, time, _) => K.pending v time)
noncomputable def E_vtimer_Pending : Env := EB.adds [(59, S_trap_InterruptsEnabled), (61, S_csr_TimerCompare)]

theorem ok_vtimer_Pending : EnvOk E_vtimer_Pending := okEB.adds (l := _) ⟨c_trap_InterruptsEnabled, c_csr_TimerCompare, trivial⟩
theorem t_vtimer_Pending (v : PVcpu) (time : Int) : evF E_vtimer_Pending 60 54 (encArgs [.vcpu, .i .u64] (v, time, ())) = bif v.halted then (Tree.leaf (SV.b false)) else (Tree.letv (okO [AT.b]) (K.ie v.core) fun x0 => (bif x0 then (Tree.letv (okO [(AT.i IntKind.u64)]) (K.cmp v.core.csr) fun x1 => (bif (decide (time ≥ x1)) then (Tree.leaf (SV.b true)) else (Tree.leaf (SV.b false)))) else (Tree.leaf (SV.b false)))) := by kernel_rfl
section
attribute [local irreducible] evF evFL evFLs
theorem a_vtimer_Pending (v : PVcpu) (time : Int) (ok_v : okVcpu v) (ok_time : okI .u64 time) : (evF E_vtimer_Pending 60 54 (encArgs [.vcpu, .i .u64] (v, time, ()))).ends fun out_ => decO [.b] out_ = some (K.pending v time) := by
  rw [t_vtimer_Pending, Tree.ends_holds]
  simp only [Tree.holds_loop, Tree.holds_fork, Tree.holds_next, if_true, Tree.holds_cond, Tree.holds_letv, Tree.holds_leaf, Tree.holds_fail, decO, decA, decTup, decMach, decCore, decTrap, decInstr, decPart, decGuest, decConf, decEvent, decVcpu, decStep, bytesS, boolS, eventsS, intsS, guestsS, vcpusS, rowS, castL, Option.bind_some, Option.map_some, Option.some.injEq, Nat.beq_refl, beq_self_eq_true, Bool.and_self, cond_true, cond_false, eq_self, beq_iff_eq, beq_eq_false_iff_ne, bne_iff_ne, bne_eq_false_iff_eq, ne_eq, decide_eq_true_eq, decide_eq_false_iff_not, ble_true, ble_false, inRange_iff, inRange_false, K.pending]
  repeat' (first | refine drop_ok ?_ | intro _ | with_reducible apply And.intro)
  all_goals first | (simp_all; done) | trace_state
  
theorem c_vtimer_Pending : SpecOk EB 54 S_vtimer_Pending := spec_sig ok_vtimer_Pending (n := 60) fun ⟨v, time, ⟨⟩⟩ h hok => a_vtimer_Pending v time (ok_vcpu (okSL_head hok)) (ok_int (okSL_head (okSL_tail hok)))
end

/-! trap_Enter -/

def S_trap_Enter : Spec := sig [.core, .trap] [.core] (fun (c, t, _) => K.enter c t)
noncomputable def E_trap_Enter : Env := EB.adds []

theorem ok_trap_Enter : EnvOk E_trap_Enter := okEB.adds (l := _) trivial
theorem t_trap_Enter (c : PCore) (t : PTrap) : evF E_trap_Enter 60 117 (encArgs [.core, .trap] (c, t, ())) = bif (BEq.beq t.cause (0 : Int)) then (Tree.leaf (SV.agg [(SV.arr IntKind.u32 16 c.regs), (SV.v (Value.int IntKind.u32 c.pc)), (SV.arr IntKind.u32 12 c.csr)])) else (bif (bne (andI IntKind.u32 (List.getD (List.set (List.set (List.set c.csr 1 c.pc) 2 (IntKind.wrap IntKind.u32 t.cause)) 3 t.tval) 0 (0 : Int)) (1 : Int)) (0 : Int)) then (bif (bne (andI IntKind.u32 (List.getD (List.set (List.set (List.set c.csr 1 c.pc) 2 (IntKind.wrap IntKind.u32 t.cause)) 3 t.tval) 0 (0 : Int)) (2 : Int)) (0 : Int)) then (Tree.leaf (SV.agg [(SV.arr IntKind.u32 16 c.regs), (SV.v (Value.int IntKind.u32 (List.getD (List.set (List.set (List.set c.csr 1 c.pc) 2 (IntKind.wrap IntKind.u32 t.cause)) 3 t.tval) 4 (0 : Int)))), (SV.arr IntKind.u32 12 (List.set (List.set (List.set (List.set c.csr 1 c.pc) 2 (IntKind.wrap IntKind.u32 t.cause)) 3 t.tval) 0 (andNotI IntKind.u32 (orI IntKind.u32 (orI IntKind.u32 (orI IntKind.u32 (List.getD (List.set (List.set (List.set c.csr 1 c.pc) 2 (IntKind.wrap IntKind.u32 t.cause)) 3 t.tval) 0 (0 : Int)) (4 : Int)) (8 : Int)) (1 : Int)) (2 : Int))))])) else (Tree.leaf (SV.agg [(SV.arr IntKind.u32 16 c.regs), (SV.v (Value.int IntKind.u32 (List.getD (List.set (List.set (List.set c.csr 1 c.pc) 2 (IntKind.wrap IntKind.u32 t.cause)) 3 t.tval) 4 (0 : Int)))), (SV.arr IntKind.u32 12 (List.set (List.set (List.set (List.set c.csr 1 c.pc) 2 (IntKind.wrap IntKind.u32 t.cause)) 3
 t.tval) 0 (andNotI IntKind.u32 (orI IntKind.u32 (andNotI IntKind.u32 (orI IntKind.u32 (List.getD (List.set (List.set (List.set c.csr 1 c.pc) 2 (IntKind.wrap IntKind.u32 t.cause)) 3 t.tval) 0 (0 : Int)) (4 : Int)) (8 : Int)) (1 : Int)) (2 : Int))))]))) else (bif (bne (andI IntKind.u32 (List.getD (List.set (List.set (List.set c.csr 1 c.pc) 2 (IntKind.wrap IntKind.u32 t.cause)) 3 t.tval) 0 (0 : Int)) (2 : Int)) (0 : Int)) then (Tree.leaf (SV.agg [(SV.arr IntKind.u32 16 c.regs), (SV.v (Value.int IntKind.u32 (List.getD (List.set (List.set (List.set c.csr 1 c.pc) 2 (IntKind.wrap IntKind.u32 t.cause)) 3 t.tval) 4 (0 : Int)))), (SV.arr IntKind.u32 12 (List.set (List.set (List.set (List.set c.csr 1 c.pc) 2 (IntKind.wrap IntKind.u32 t.cause)) 3 t.tval) 0 (andNotI IntKind.u32 (orI IntKind.u32 (orI IntKind.u32 (andNotI IntKind.u32 (List.getD (List.set (List.set (List.set c.csr 1 c.pc) 2 (IntKind.wrap IntKind.u32 t.cause)) 3 t.tval) 0 (0 : Int)) (4 : Int)) (8 : Int)) (1 : Int)) (2 : Int))))])) else (Tree.leaf (SV.agg [(SV.arr IntKind.u32 16 c.regs), (SV.v (Value.int IntKind.u32 (List.getD (List.set (List.set (List.set c.csr 1 c.pc) 2 (IntKind.wrap IntKind.u32 t.cause)) 3 t.tval) 4 (0 : Int)))), (SV.arr IntKind.u32 12 (List.set (List.set (List.set (List.set c.csr 1 c.pc) 2 (IntKind.wrap IntKind.u32 t.cause)) 3 t.tval) 0 (andNotI IntKind.u32 (orI IntKind.u32 (andNotI IntKind.u32 (andNotI IntKind.u32 (List.getD (List.set (List.set (List.set c.csr 1 c.pc) 2 (IntKind.wrap IntKind.u32 t.cause))
 3 t.tval) 0 (0 : Int)) (4 : Int)) (8 : Int)) (1 : Int)) (2 : Int))))])))) := by kernel_rfl
section
attribute [local irreducible] evF evFL evFLs
theorem a_trap_Enter (c : PCore) (t : PTrap) (ok_c : okCore c) (ok_t : okTrap t) : (evF E_trap_Enter 60 117 (encArgs [.core, .trap] (c, t, ()))).ends fun out_ => decO [.core] out_ = some (K.enter c t) := by
  rw [t_trap_Enter, Tree.ends_holds]
  obtain ⟨s0, s1⟩ := ok_c.csr.u32 (i := 0) (by omega)
  obtain ⟨a0, a1, a2, a3, a4, a5, a6, a7, a8, a9, a10, a11, hc⟩ := list12 ok_c.csr.1
  have hs : c.csr.getD 0 0 = a0 := by rw [hc]; rfl
  rw [hs] at s0 s1
  simp only [Tree.holds_loop, Tree.holds_fork, Tree.holds_next, if_true, Tree.holds_cond, Tree.holds_letv, Tree.holds_leaf, Tree.holds_fail, decO, decA, decTup, decMach, decCore, decTrap, decInstr, decPart, decGuest, decConf, decEvent, decVcpu, decStep, bytesS, boolS, eventsS, intsS, guestsS, vcpusS, rowS, castL, Option.bind_some, Option.map_some, Option.some.injEq, Nat.beq_refl, beq_self_eq_true, Bool.and_self, cond_true, cond_false, eq_self, beq_iff_eq, beq_eq_false_iff_ne, bne_iff_ne, bne_eq_false_iff_eq, ne_eq, decide_eq_true_eq, decide_eq_false_iff_not, ble_true, ble_false, inRange_iff, inRange_false, K.enter, hc, wrap32]
  simp only [List.set_cons_zero, List.set_cons_succ, List.getD_cons_zero, List.getD_cons_succ]
  simp only [and_1 s0 s1, and_2 s0 s1]
  refine ⟨fun h => ?_, fun h => ?_⟩
  · rw [if_pos h, ← hc]
  rw [if_neg h]
  unfold K.enterS
  repeat' (first | refine drop_ok ?_ | intro _ | with_reducible apply And.intro)
  all_goals
    simp only [PCore.mk.injEq, List.cons.injEq, and_true, true_and]
    show @Eq Int _ _
    first
      | (rw [or_4 s0 s1, or_8 (by omega) (by omega), or_1 (by omega) (by omega), andNot_2 (by omega) (by omega)]; omega)
      | (rw [or_4 s0 s1, andNot_8 (by omega) (by omega), or_1 (by omega) (by omega), andNot_2 (by omega) (by omega)]; omega)
      | (rw [andNot_4 s0 s1, or_8 (by omega) (by omega), or_1 (by omega) (by omega), andNot_2 (by omega) (by omega)]; omega)
      | (rw [andNot_4 s0 s1, andNot_8 (by omega) (by omega), or_1 (by omega) (by omega), andNot_2 (by omega) (by omega)]; omega)
  
theorem c_trap_Enter : SpecOk EB 117 S_trap_Enter := spec_sig ok_trap_Enter (n := 60) fun ⟨c, t, ⟨⟩⟩ h hok => a_trap_Enter c t (ok_core (okSL_head hok)) (ok_trap (okSL_head (okSL_tail hok)))
end

/-! vtrap_InjectTimer -/

def S_vtrap_InjectTimer : Spec := sig [.vcpu, .i .u64] [.vcpu] (fun (v, time, _) => K.inject v time) (pre := fun (v, time, _) => decide (v.log.length ≤ 1099511627776))
noncomputable def E_vtrap_InjectTimer : Env := { EB.adds [(117, S_trap_Enter)] with cut0 := true }

theorem ok_vtrap_InjectTimer : EnvOk E_vtrap_InjectTimer := have h : EnvOk (EB.adds [(117, S_trap_Enter)]) := okEB.adds (l := _) ⟨c_trap_Enter, trivial⟩; ⟨h.mixed, h.spec, h.callee⟩
theorem t_vtrap_InjectTimer (v : PVcpu) (time : Int) : evF E_vtrap_InjectTimer 60 55 (encArgs [.vcpu, .i .u64] (v, time, ())) = Tree.letv (okO [AT.core]) (K.enter v.core (PTrap.mk (6 : Int) (0 : Int))) fun x0 => (bif (decide ((IntKind.wrap IntKind.i64 ((0 : Int) + (Int.ofNat (List.length v.log)))) < (0 : Int))) then (Tree.fail) else (bif (decide ((IntKind.wrap IntKind.i64 ((IntKind.wrap IntKind.i64 ((0 : Int) + (Int.ofNat (List.length v.log)))) + (1 : Int))) < (0 : Int))) then (Tree.fail) else (bif (decide ((IntKind.wrap IntKind.i64 ((IntKind.wrap IntKind.i64 ((0 : Int) + (Int.ofNat (List.length v.log)))) + (1 : Int))) < (0 : Int))) then (Tree.fail) else (bif (decide ((IntKind.wrap IntKind.i64 ((IntKind.wrap IntKind.i64 ((IntKind.wrap IntKind.i64 ((0 : Int) + (Int.ofNat (List.length v.log)))) + (1 : Int))) - (0 : Int))) > (0 : Int))) then (bif (Bool.and (decide ((0 : Int) ≤ (IntKind.wrap IntKind.i64 ((IntKind.wrap IntKind.i64 ((IntKind.wrap IntKind.i64 ((0 : Int) + (Int.ofNat (List.length v.log)))) + (1 : Int))) - (0 : Int))))) (decide ((@Int.rec (fun x1 => Int) (fun x1 => (Int.ofNat (x1 * 24))) (fun x1 => (@Nat.rec (fun x2 => Int) (0 : Int) (fun x2 => (fun x3 => (Int.negSucc x2))) ((Nat.succ x1) * 24))) (IntKind.wrap IntKind.i64 ((IntKind.wrap IntKind.i64 ((IntKind.wrap IntKind.i64 ((0 : Int) + (Int.ofNat (List.length v.log)))) + (1 : Int))) - (0 : Int)))) ≤ (140737488355328 : Int)))) then (bif (Nat.ble ((0 + (List.length v.log)) * 24) 140737488355328) then (bif (Nat.ble
 (((List.length v.log) + 1) * 24) 140737488355328) then (Tree.leaf (SV.agg [(SV.arr IntKind.u32 16 x0.regs), (SV.v (Value.int IntKind.u32 x0.pc)), (SV.arr IntKind.u32 12 x0.csr), (SV.rd ETy.u8 v.out), (SV.v (Value.bool v.halted)), (SV.v (Value.int IntKind.i64 (IntKind.wrap IntKind.i64 (v.done + (1 : Int))))), (SV.rd ETy.event (List.append v.log [(PEvent.mk (1 : Int) v.done time)]))])) else (Tree.fail)) else (Tree.fail)) else (Tree.fail)) else (bif (Nat.ble ((List.length v.log) * 24) 140737488355328) then (bif (Nat.ble (((List.length v.log) + 1) * 24) 140737488355328) then (Tree.leaf (SV.agg [(SV.arr IntKind.u32 16 x0.regs), (SV.v (Value.int IntKind.u32 x0.pc)), (SV.arr IntKind.u32 12 x0.csr), (SV.rd ETy.u8 v.out), (SV.v (Value.bool v.halted)), (SV.v (Value.int IntKind.i64 (IntKind.wrap IntKind.i64 (v.done + (1 : Int))))), (SV.rd ETy.event (List.append v.log [(PEvent.mk (1 : Int) v.done time)]))])) else (Tree.fail)) else (Tree.fail)))))) := by kernel_rfl
section
attribute [local irreducible] evF evFL evFLs
theorem a_vtrap_InjectTimer (v : PVcpu) (time : Int) (hpre : v.log.length ≤ 1099511627776) (ok_v : okVcpu v) (ok_time : okI .u64 time) : (evF E_vtrap_InjectTimer 60 55 (encArgs [.vcpu, .i .u64] (v, time, ()))).ends fun out_ => decO [.vcpu] out_ = some (K.inject v time) := by
  rw [t_vtrap_InjectTimer, Tree.ends_holds]
  have e1 : IntKind.i64.wrap (0 + Int.ofNat v.log.length) = (v.log.length : Int) := by rw [Int.zero_add, Int.ofNat_eq_natCast]; exact wrapI64 (by omega) (by omega)
  have e2 : IntKind.i64.wrap ((v.log.length : Int) + 1) = Int.ofNat (v.log.length + 1) := wrapI64 (by omega) (by omega)
  have e3 : IntKind.i64.wrap (Int.ofNat (v.log.length + 1) - 0) = Int.ofNat (v.log.length + 1) := by rw [Int.sub_zero]; exact wrapI64 (by simp; omega) (by simp; omega)
  simp only [e1, e2, e3]
  simp only [Int.ofNat_eq_natCast]
  simp only [Tree.holds_loop, Tree.holds_fork, Tree.holds_next, if_true, Tree.holds_cond, Tree.holds_letv, Tree.holds_leaf, Tree.holds_fail, decO, decA, decTup, decMach, decCore, decTrap, decInstr, decPart, decGuest, decConf, decEvent, decVcpu, decStep, bytesS, boolS, eventsS, intsS, guestsS, vcpusS, rowS, castL, Option.bind_some, Option.map_some, Option.some.injEq, Nat.beq_refl, beq_self_eq_true, Bool.and_self, cond_true, cond_false, eq_self, beq_iff_eq, beq_eq_false_iff_ne, bne_iff_ne, bne_eq_false_iff_eq, ne_eq, decide_eq_true_eq, decide_eq_false_iff_not, ble_true, ble_false, inRange_iff, inRange_false, wrap_inc ok_v.done, Bool.and_eq_true, Bool.and_eq_false_iff, List.append_eq]
  repeat' (first | refine drop_ok ?_ | intro _ | with_reducible apply And.intro)
  all_goals first
    | rfl
    | (exfalso; omega)
    | trace_state
  
theorem c_vtrap_InjectTimer : SpecOk EB 55 S_vtrap_InjectTimer := spec_sig ok_vtrap_InjectTimer (n := 60) fun ⟨v, time, ⟨⟩⟩ h hok => a_vtrap_InjectTimer v time (of_decide_eq_true h) (ok_vcpu (okSL_head hok)) (ok_int (okSL_head (okSL_tail hok)))
end

/-! vtimer_DeliverPending -/

def S_vtimer_DeliverPending : Spec := sig [.vcpu, .i .u64] [.vcpu, .b] (fun (v, time, _) => K.deliver v time) (pre := fun (v, time, _) => decide (v.log.length ≤ 1099511627776))
noncomputable def E_vtimer_DeliverPending : Env := EB.adds [(54, S_vtimer_Pending), (55, S_vtrap_InjectTimer)]

theorem ok_vtimer_DeliverPending : EnvOk E_vtimer_DeliverPending := okEB.adds (l := _) ⟨c_vtimer_Pending, c_vtrap_InjectTimer, trivial⟩
theorem t_vtimer_DeliverPending (v : PVcpu) (time : Int) : evF E_vtimer_DeliverPending 60 30 (encArgs [.vcpu, .i .u64] (v, time, ())) = Tree.letv (okO [AT.b]) (K.pending v time) fun x0 => (bif x0 then (bif (decide ((List.length v.log) ≤ 1099511627776)) then (Tree.letv (okO [AT.vcpu]) (K.inject v time) fun x1 => (Tree.leaf (SV.tup [(SV.agg [(SV.arr IntKind.u32 16 x1.core.regs), (SV.v (Value.int IntKind.u32 x1.core.pc)), (SV.arr IntKind.u32 12 x1.core.csr), (SV.rd ETy.u8 x1.out), (SV.v (Value.bool x1.halted)), (SV.v (Value.int IntKind.i64 x1.done)), (SV.rd ETy.event x1.log)]), (SV.b true)]))) else (Tree.fail)) else (Tree.leaf (SV.tup [(SV.agg [(SV.arr IntKind.u32 16 v.core.regs), (SV.v (Value.int IntKind.u32 v.core.pc)), (SV.arr IntKind.u32 12 v.core.csr), (SV.rd ETy.u8 v.out), (SV.v (Value.bool v.halted)), (SV.v (Value.int IntKind.i64 v.done)), (SV.rd ETy.event v.log)]), (SV.b false)]))) := by kernel_rfl
section
attribute [local irreducible] evF evFL evFLs
theorem a_vtimer_DeliverPending (v : PVcpu) (time : Int) (hpre : v.log.length ≤ 1099511627776) (ok_v : okVcpu v) (ok_time : okI .u64 time) : (evF E_vtimer_DeliverPending 60 30 (encArgs [.vcpu, .i .u64] (v, time, ()))).ends fun out_ => decO [.vcpu, .b] out_ = some (K.deliver v time) := by
  rw [t_vtimer_DeliverPending, Tree.ends_holds]
  simp only [Tree.holds_loop, Tree.holds_fork, Tree.holds_next, if_true, Tree.holds_cond, Tree.holds_letv, Tree.holds_leaf, Tree.holds_fail, decO, decA, decTup, decMach, decCore, decTrap, decInstr, decPart, decGuest, decConf, decEvent, decVcpu, decStep, bytesS, boolS, eventsS, intsS, guestsS, vcpusS, rowS, castL, Option.bind_some, Option.map_some, Option.some.injEq, Nat.beq_refl, beq_self_eq_true, Bool.and_self, cond_true, cond_false, eq_self, beq_iff_eq, beq_eq_false_iff_ne, bne_iff_ne, bne_eq_false_iff_eq, ne_eq, decide_eq_true_eq, decide_eq_false_iff_not, ble_true, ble_false, inRange_iff, inRange_false, K.deliver]
  repeat' (first | refine drop_ok ?_ | intro _ | with_reducible apply And.intro)
  all_goals first | (simp_all; done) | (exfalso; omega) | trace_state
  
theorem c_vtimer_DeliverPending : SpecOk EB 30 S_vtimer_DeliverPending := spec_sig ok_vtimer_DeliverPending (n := 60) fun ⟨v, time, ⟨⟩⟩ h hok => a_vtimer_DeliverPending v time (of_decide_eq_true h) (ok_vcpu (okSL_head hok)) (ok_int (okSL_head (okSL_tail hok)))
end

/-! vtimer_Alarm -/

def S_vtimer_Alarm : Spec := sig [.vcpu, .i .u64] [.i .u64] (fun (v, end_, _) => K.alarm v end_)
noncomputable def E_vtimer_Alarm : Env := EB.adds [(59, S_trap_InterruptsEnabled), (61, S_csr_TimerCompare)]

theorem ok_vtimer_Alarm : EnvOk E_vtimer_Alarm := okEB.adds (l := _) ⟨c_trap_InterruptsEnabled, c_csr_TimerCompare, trivial⟩
theorem t_vtimer_Alarm (v : PVcpu) (end_ : Int) : evF E_vtimer_Alarm 60 33 (encArgs [.vcpu, .i .u64] (v, end_, ())) = Tree.letv (okO [AT.b]) (K.ie v.core) fun x0 => (bif x0 then (Tree.letv (okO [(AT.i IntKind.u64)]) (K.cmp v.core.csr) fun x1 => (Tree.leaf (SV.v (Value.int IntKind.u64 (if (x1 < end_) then x1 else end_))))) else (Tree.leaf (SV.v (Value.int IntKind.u64 end_)))) := by kernel_rfl
section
attribute [local irreducible] evF evFL evFLs
theorem a_vtimer_Alarm (v : PVcpu) (end_ : Int) (ok_v : okVcpu v) (ok_end_ : okI .u64 end_) : (evF E_vtimer_Alarm 60 33 (encArgs [.vcpu, .i .u64] (v, end_, ()))).ends fun out_ => decO [.i .u64] out_ = some (K.alarm v end_) := by
  rw [t_vtimer_Alarm, Tree.ends_holds]
  simp only [Tree.holds_loop, Tree.holds_fork, Tree.holds_next, if_true, Tree.holds_cond, Tree.holds_letv, Tree.holds_leaf, Tree.holds_fail, decO, decA, decTup, decMach, decCore, decTrap, decInstr, decPart, decGuest, decConf, decEvent, decVcpu, decStep, bytesS, boolS, eventsS, intsS, guestsS, vcpusS, rowS, castL, Option.bind_some, Option.map_some, Option.some.injEq, Nat.beq_refl, beq_self_eq_true, Bool.and_self, cond_true, cond_false, eq_self, beq_iff_eq, beq_eq_false_iff_ne, bne_iff_ne, bne_eq_false_iff_eq, ne_eq, decide_eq_true_eq, decide_eq_false_iff_not, ble_true, ble_false, inRange_iff, inRange_false, K.alarm]
  repeat' (first | refine drop_ok ?_ | intro _ | with_reducible apply And.intro)
  all_goals first
    | (simp_all; done)
    | (rename_i hq; rw [if_neg (fun q => hq q.2)]; done)
    | trace_state
  
theorem c_vtimer_Alarm : SpecOk EB 33 S_vtimer_Alarm := spec_sig ok_vtimer_Alarm (n := 60) fun ⟨v, end_, ⟨⟩⟩ h hok => a_vtimer_Alarm v end_ (ok_vcpu (okSL_head hok)) (ok_int (okSL_head (okSL_tail hok)))
end

/-! regs_ClearZero -/

def S_regs_ClearZero : Spec := sig [.a .u32 16] [.a .u32 16] (fun (r, _) => r.set 0 0)
noncomputable def E_regs_ClearZero : Env := EB.adds []

theorem ok_regs_ClearZero : EnvOk E_regs_ClearZero := okEB.adds (l := _) trivial
theorem t_regs_ClearZero (r : List Int) : evF E_regs_ClearZero 60 62 (encArgs [.a .u32 16] (r, ())) = Tree.leaf (SV.agg [(SV.arr IntKind.u32 16 (List.set r 0 (0 : Int)))]) := by kernel_rfl
section
attribute [local irreducible] evF evFL evFLs
theorem a_regs_ClearZero (r : List Int) (ok_r : okL .u32 16 r) : (evF E_regs_ClearZero 60 62 (encArgs [.a .u32 16] (r, ()))).ends fun out_ => decO [.a .u32 16] out_ = some (r.set 0 0) := by
  rw [t_regs_ClearZero, Tree.ends_holds]
  simp only [Tree.holds_loop, Tree.holds_fork, Tree.holds_next, if_true, Tree.holds_cond, Tree.holds_letv, Tree.holds_leaf, Tree.holds_fail, decO, decA, decTup, decMach, decCore, decTrap, decInstr, decPart, decGuest, decConf, decEvent, decVcpu, decStep, bytesS, boolS, eventsS, intsS, guestsS, vcpusS, rowS, castL, Option.bind_some, Option.map_some, Option.some.injEq, Nat.beq_refl, beq_self_eq_true, Bool.and_self, cond_true, cond_false, eq_self]
  
theorem c_regs_ClearZero : SpecOk EB 62 S_regs_ClearZero := spec_sig ok_regs_ClearZero (n := 60) fun ⟨r, ⟨⟩⟩ h hok => a_regs_ClearZero r (ok_arr (okSL_head hok))
end

/-! save_Restore -/

def S_save_Restore : Spec := sig [.mach, .vcpu] [.mach] (fun (host, v, _) => K.restore host v)
noncomputable def E_save_Restore : Env := EB.adds [(62, S_regs_ClearZero)]

theorem ok_save_Restore : EnvOk E_save_Restore := okEB.adds (l := _) ⟨c_regs_ClearZero, trivial⟩
theorem t_save_Restore (host : PMach) (v : PVcpu) : evF E_save_Restore 60 57 (encArgs [.mach, .vcpu] (host, v, ())) = Tree.letv (okO [(AT.a IntKind.u32 16)]) (List.set v.core.regs 0 (0 : Int)) fun x0 => (Tree.leaf (SV.agg [(SV.arr IntKind.u32 16 x0), (SV.v (Value.int IntKind.u32 v.core.pc)), (SV.arr IntKind.u32 12 host.core.csr), (SV.rd ETy.u8 host.mem), (SV.v (Value.int IntKind.u64 host.time)), (SV.rd ETy.u8 host.out), (SV.v (Value.bool host.halted))])) := by kernel_rfl
section
attribute [local irreducible] evF evFL evFLs
theorem a_save_Restore (host : PMach) (v : PVcpu) (ok_host : okMach host) (ok_v : okVcpu v) : (evF E_save_Restore 60 57 (encArgs [.mach, .vcpu] (host, v, ()))).ends fun out_ => decO [.mach] out_ = some (K.restore host v) := by
  rw [t_save_Restore, Tree.ends_holds]
  simp only [Tree.holds_loop, Tree.holds_fork, Tree.holds_next, if_true, Tree.holds_cond, Tree.holds_letv, Tree.holds_leaf, Tree.holds_fail, decO, decA, decTup, decMach, decCore, decTrap, decInstr, decPart, decGuest, decConf, decEvent, decVcpu, decStep, bytesS, boolS, eventsS, intsS, guestsS, vcpusS, rowS, castL, Option.bind_some, Option.map_some, Option.some.injEq, Nat.beq_refl, beq_self_eq_true, Bool.and_self, cond_true, cond_false, eq_self, K.restore]
  repeat' (first | refine drop_ok ?_ | intro _ | with_reducible apply And.intro)
  all_goals trivial
  
theorem c_save_Restore : SpecOk EB 57 S_save_Restore := spec_sig ok_save_Restore (n := 60) fun ⟨host, v, ⟨⟩⟩ h hok => a_save_Restore host v (ok_mach (okSL_head hok)) (ok_vcpu (okSL_head (okSL_tail hok)))
end

/-! reloc_Compose -/

def S_reloc_Compose : Spec := sig [.part, .core] [.i .u32, .i .u32] (fun (p, c, _) => K.compose p c)
noncomputable def E_reloc_Compose : Env := EB.adds []

theorem ok_reloc_Compose : EnvOk E_reloc_Compose := okEB.adds (l := _) trivial
theorem t_reloc_Compose (p : PPart) (c : PCore) : evF E_reloc_Compose 60 58 (encArgs [.part, .core] (p, c, ())) = bif (bne (andI IntKind.u32 (List.getD c.csr 0 (0 : Int)) (1 : Int)) (0 : Int)) then (Tree.leaf (SV.tup [(SV.v (Value.int IntKind.u32 p.base)), (SV.v (Value.int IntKind.u32 p.size))])) else (bif (BEq.beq (if ((IntKind.wrap IntKind.u64 (IntKind.wrap IntKind.u32 (p.size - (if ((List.getD c.csr 5 (0 : Int)) < p.size) then (List.getD c.csr 5 (0 : Int)) else p.size)))) < (IntKind.wrap IntKind.u64 (List.getD c.csr 6 (0 : Int)))) then (IntKind.wrap IntKind.u64 (IntKind.wrap IntKind.u32 (p.size - (if ((List.getD c.csr 5 (0 : Int)) < p.size) then (List.getD c.csr 5 (0 : Int)) else p.size)))) else (IntKind.wrap IntKind.u64 (List.getD c.csr 6 (0 : Int)))) (0 : Int)) then (Tree.leaf (SV.tup [(SV.v (Value.int IntKind.u32 (0 : Int))), (SV.v (Value.int IntKind.u32 (0 : Int)))])) else (Tree.leaf (SV.tup [(SV.v (Value.int IntKind.u32 (IntKind.wrap IntKind.u32 (p.base + (List.getD c.csr 5 (0 : Int)))))), (SV.v (Value.int IntKind.u32 (IntKind.wrap IntKind.u32 (if ((IntKind.wrap IntKind.u64 (IntKind.wrap IntKind.u32 (p.size - (if ((List.getD c.csr 5 (0 : Int)) < p.size) then (List.getD c.csr 5 (0 : Int)) else p.size)))) < (IntKind.wrap IntKind.u64 (List.getD c.csr 6 (0 : Int)))) then (IntKind.wrap IntKind.u64 (IntKind.wrap IntKind.u32 (p.size - (if ((List.getD c.csr 5 (0 : Int)) < p.size) then (List.getD c.csr 5 (0 : Int)) else p.size)))) else (IntKind.wrap IntKind.u64 (List.getD c.csr
 6 (0 : Int)))))))]))) := by kernel_rfl
section
attribute [local irreducible] evF evFL evFLs
theorem a_reloc_Compose (p : PPart) (c : PCore) (ok_p : okPart p) (ok_c : okCore c) : (evF E_reloc_Compose 60 58 (encArgs [.part, .core] (p, c, ()))).ends fun out_ => decO [.i .u32, .i .u32] out_ = some (K.compose p c) := by
  rw [t_reloc_Compose, Tree.ends_holds]
  obtain ⟨s0, s1⟩ := ok_c.csr.u32 (i := 0) (by omega)
  obtain ⟨t0, t1⟩ := ok_c.csr.u32 (i := 5) (by omega)
  obtain ⟨u0, u1⟩ := ok_c.csr.u32 (i := 6) (by omega)
  obtain ⟨p0, p1⟩ := okI_u32 ok_p.base
  obtain ⟨q0, q1⟩ := okI_u32 ok_p.size
  simp only [Tree.holds_loop, Tree.holds_fork, Tree.holds_next, if_true, Tree.holds_cond, Tree.holds_letv, Tree.holds_leaf, Tree.holds_fail, decO, decA, decTup, decMach, decCore, decTrap, decInstr, decPart, decGuest, decConf, decEvent, decVcpu, decStep, bytesS, boolS, eventsS, intsS, guestsS, vcpusS, rowS, castL, Option.bind_some, Option.map_some, Option.some.injEq, Nat.beq_refl, beq_self_eq_true, Bool.and_self, cond_true, cond_false, eq_self, beq_iff_eq, beq_eq_false_iff_ne, bne_iff_ne, bne_eq_false_iff_eq, ne_eq, decide_eq_true_eq, decide_eq_false_iff_not, ble_true, ble_false, inRange_iff, inRange_false, and_1 s0 s1, wrap32, wrap64, K.compose, K.super]
  generalize c.csr.getD 0 0 = S at *
  generalize c.csr.getD 5 0 = B at *
  generalize c.csr.getD 6 0 = C at *
  have e : (if (p.size - if B < p.size then B else p.size) % 4294967296 % 18446744073709551616 < C % 18446744073709551616 then (p.size - if B < p.size then B else p.size) % 4294967296 % 18446744073709551616 else C % 18446744073709551616) = min C (p.size - min p.size B) := by
    (repeat' split) <;> omega
  rw [e]
  have e2 : min C (p.size - min p.size B) % 4294967296 = min C (p.size - min p.size B) := by omega
  rw [e2]
  generalize min C (p.size - min p.size B) = H at *
  repeat' (first | refine drop_ok ?_ | intro _ | with_reducible apply And.intro)
  all_goals first
    | (rw [if_pos (by omega)]; done)
    | (rw [if_neg (by omega), if_pos (by omega)]; done)
    | (rw [if_neg (by omega), if_neg (by omega)]; done)
  
theorem c_reloc_Compose : SpecOk EB 58 S_reloc_Compose := spec_sig ok_reloc_Compose (n := 60) fun ⟨p, c, ⟨⟩⟩ h hok => a_reloc_Compose p c (ok_part (okSL_head hok)) (ok_core (okSL_head (okSL_tail hok)))
end

/-! shadow_Dispatch -/

def S_shadow_Dispatch : Spec := sig [.mach, .vcpu, .part, .i .u64] [.mach] (fun (host, v, p, alarm, _) => K.dispatch host v p alarm)
noncomputable def E_shadow_Dispatch : Env := EB.adds [(57, S_save_Restore), (58, S_reloc_Compose)]

theorem ok_shadow_Dispatch : EnvOk E_shadow_Dispatch := okEB.adds (l := _) ⟨c_save_Restore, c_reloc_Compose, trivial⟩
theorem t_shadow_Dispatch (host : PMach) (v : PVcpu) (p : PPart) (alarm : Int) : evF E_shadow_Dispatch 60 32 (encArgs [.mach, .vcpu, .part, .i .u64] (host, v, p, alarm, ())) = Tree.letv (okO [AT.mach]) (K.restore host v) fun x0 => (Tree.letv (okO [(AT.i IntKind.u32), (AT.i IntKind.u32)]) (K.compose p v.core) fun x1 => (Tree.fork (Tree.fork (Tree.triv) (Tree.fork (Tree.fork (Tree.triv) (Tree.fork (Tree.triv) (Tree.fork (Tree.fork (Tree.triv) (Tree.fork (Tree.triv) (Tree.fork (Tree.triv) (Tree.fork (Tree.fork (Tree.triv) (Tree.fork (Tree.triv) (Tree.fork (Tree.triv) (Tree.fork (Tree.triv) (Tree.fork (Tree.fork (Tree.triv) (Tree.fork (Tree.triv) (Tree.fork (Tree.triv) (Tree.fork (Tree.triv) (Tree.fork (Tree.triv) (Tree.leaf (SV.agg [(SV.arr IntKind.u32 16 x0.core.regs), (SV.v (Value.int IntKind.u32 x0.core.pc)), (SV.arr IntKind.u32 12 (List.set (List.set (List.set (List.set (List.set x0.core.csr 0 (2 : Int)) 5 x1.fst) 6 x1.snd) 9 (IntKind.wrap IntKind.u32 alarm)) 10 (IntKind.wrap IntKind.u32 (Int.fdiv alarm (4294967296 : Int))))), (SV.rd ETy.u8 x0.mem), (SV.v (Value.int IntKind.u64 x0.time)), (SV.rd ETy.u8 x0.out), (SV.v (Value.bool x0.halted))]))))))) (Tree.triv)))))) (Tree.fork (Tree.fork (Tree.triv) (Tree.fork (Tree.triv) (Tree.fork (Tree.triv) (Tree.fork (Tree.fork (Tree.triv) (Tree.fork (Tree.triv) (Tree.fork (Tree.triv) (Tree.fork (Tree.triv) (Tree.fork (Tree.triv) (Tree.leaf (SV.agg [(SV.arr IntKind.u32 16 x0.core.regs), (SV.v (Value.int IntKind.u32 x0.core.pc)), (SV.arr
 IntKind.u32 12 (List.set (List.set (List.set (List.set (List.set x0.core.csr 0 (2 : Int)) 5 x1.fst) 6 x1.snd) 10 (IntKind.wrap IntKind.u32 (Int.fdiv alarm (4294967296 : Int)))) 9 (IntKind.wrap IntKind.u32 alarm))), (SV.rd ETy.u8 x0.mem), (SV.v (Value.int IntKind.u64 x0.time)), (SV.rd ETy.u8 x0.out), (SV.v (Value.bool x0.halted))]))))))) (Tree.fork (Tree.triv) (Tree.triv)))))) (Tree.triv)))))) (Tree.fork (Tree.fork (Tree.triv) (Tree.fork (Tree.triv) (Tree.fork (Tree.fork (Tree.triv) (Tree.fork (Tree.triv) (Tree.fork (Tree.triv) (Tree.fork (Tree.triv) (Tree.fork (Tree.fork (Tree.triv) (Tree.fork (Tree.triv) (Tree.fork (Tree.triv) (Tree.fork (Tree.triv) (Tree.fork (Tree.triv) (Tree.leaf (SV.agg [(SV.arr IntKind.u32 16 x0.core.regs), (SV.v (Value.int IntKind.u32 x0.core.pc)), (SV.arr IntKind.u32 12 (List.set (List.set (List.set (List.set (List.set x0.core.csr 0 (2 : Int)) 5 x1.fst) 9 (IntKind.wrap IntKind.u32 alarm)) 6 x1.snd) 10 (IntKind.wrap IntKind.u32 (Int.fdiv alarm (4294967296 : Int))))), (SV.rd ETy.u8 x0.mem), (SV.v (Value.int IntKind.u64 x0.time)), (SV.rd ETy.u8 x0.out), (SV.v (Value.bool x0.halted))]))))))) (Tree.triv)))))) (Tree.fork (Tree.triv) (Tree.fork (Tree.fork (Tree.triv) (Tree.fork (Tree.triv) (Tree.fork (Tree.fork (Tree.triv) (Tree.fork (Tree.triv) (Tree.fork (Tree.triv) (Tree.fork (Tree.triv) (Tree.fork (Tree.triv) (Tree.leaf (SV.agg [(SV.arr IntKind.u32 16 x0.core.regs), (SV.v (Value.int IntKind.u32 x0.core.pc)), (SV.arr IntKind.u32 12 (List.set (List.set
 (List.set (List.set (List.set x0.core.csr 0 (2 : Int)) 5 x1.fst) 9 (IntKind.wrap IntKind.u32 alarm)) 10 (IntKind.wrap IntKind.u32 (Int.fdiv alarm (4294967296 : Int)))) 6 x1.snd)), (SV.rd ETy.u8 x0.mem), (SV.v (Value.int IntKind.u64 x0.time)), (SV.rd ETy.u8 x0.out), (SV.v (Value.bool x0.halted))]))))))) (Tree.fork (Tree.triv) (Tree.fork (Tree.triv) (Tree.triv)))))) (Tree.triv)))))) (Tree.fork (Tree.fork (Tree.triv) (Tree.fork (Tree.triv) (Tree.fork (Tree.fork (Tree.triv) (Tree.fork (Tree.triv) (Tree.fork (Tree.triv) (Tree.fork (Tree.fork (Tree.triv) (Tree.fork (Tree.triv) (Tree.fork (Tree.triv) (Tree.fork (Tree.triv) (Tree.fork (Tree.triv) (Tree.leaf (SV.agg [(SV.arr IntKind.u32 16 x0.core.regs), (SV.v (Value.int IntKind.u32 x0.core.pc)), (SV.arr IntKind.u32 12 (List.set (List.set (List.set (List.set (List.set x0.core.csr 0 (2 : Int)) 5 x1.fst) 10 (IntKind.wrap IntKind.u32 (Int.fdiv alarm (4294967296 : Int)))) 6 x1.snd) 9 (IntKind.wrap IntKind.u32 alarm))), (SV.rd ETy.u8 x0.mem), (SV.v (Value.int IntKind.u64 x0.time)), (SV.rd ETy.u8 x0.out), (SV.v (Value.bool x0.halted))]))))))) (Tree.fork (Tree.triv) (Tree.triv)))))) (Tree.fork (Tree.fork (Tree.triv) (Tree.fork (Tree.triv) (Tree.fork (Tree.fork (Tree.triv) (Tree.fork (Tree.triv) (Tree.fork (Tree.triv) (Tree.fork (Tree.triv) (Tree.fork (Tree.triv) (Tree.leaf (SV.agg [(SV.arr IntKind.u32 16 x0.core.regs), (SV.v (Value.int IntKind.u32 x0.core.pc)), (SV.arr IntKind.u32 12 (List.set (List.set (List.set (List.set (List.set
 x0.core.csr 0 (2 : Int)) 5 x1.fst) 10 (IntKind.wrap IntKind.u32 (Int.fdiv alarm (4294967296 : Int)))) 9 (IntKind.wrap IntKind.u32 alarm)) 6 x1.snd)), (SV.rd ETy.u8 x0.mem), (SV.v (Value.int IntKind.u64 x0.time)), (SV.rd ETy.u8 x0.out), (SV.v (Value.bool x0.halted))]))))))) (Tree.fork (Tree.triv) (Tree.fork (Tree.triv) (Tree.triv)))))) (Tree.fork (Tree.triv) (Tree.triv)))))) (Tree.triv)))))) (Tree.fork (Tree.fork (Tree.triv) (Tree.fork (Tree.fork (Tree.triv) (Tree.fork (Tree.triv) (Tree.fork (Tree.triv) (Tree.fork (Tree.fork (Tree.triv) (Tree.fork (Tree.triv) (Tree.fork (Tree.triv) (Tree.fork (Tree.triv) (Tree.fork (Tree.fork (Tree.triv) (Tree.fork (Tree.triv) (Tree.fork (Tree.triv) (Tree.fork (Tree.triv) (Tree.fork (Tree.triv) (Tree.leaf (SV.agg [(SV.arr IntKind.u32 16 x0.core.regs), (SV.v (Value.int IntKind.u32 x0.core.pc)), (SV.arr IntKind.u32 12 (List.set (List.set (List.set (List.set (List.set x0.core.csr 0 (2 : Int)) 6 x1.snd) 5 x1.fst) 9 (IntKind.wrap IntKind.u32 alarm)) 10 (IntKind.wrap IntKind.u32 (Int.fdiv alarm (4294967296 : Int))))), (SV.rd ETy.u8 x0.mem), (SV.v (Value.int IntKind.u64 x0.time)), (SV.rd ETy.u8 x0.out), (SV.v (Value.bool x0.halted))]))))))) (Tree.triv)))))) (Tree.fork (Tree.fork (Tree.triv) (Tree.fork (Tree.triv) (Tree.fork (Tree.triv) (Tree.fork (Tree.fork (Tree.triv) (Tree.fork (Tree.triv) (Tree.fork (Tree.triv) (Tree.fork (Tree.triv) (Tree.fork (Tree.triv) (Tree.leaf (SV.agg [(SV.arr IntKind.u32 16 x0.core.regs), (SV.v (Value.int IntKind.u32
 x0.core.pc)), (SV.arr IntKind.u32 12 (List.set (List.set (List.set (List.set (List.set x0.core.csr 0 (2 : Int)) 6 x1.snd) 5 x1.fst) 10 (IntKind.wrap IntKind.u32 (Int.fdiv alarm (4294967296 : Int)))) 9 (IntKind.wrap IntKind.u32 alarm))), (SV.rd ETy.u8 x0.mem), (SV.v (Value.int IntKind.u64 x0.time)), (SV.rd ETy.u8 x0.out), (SV.v (Value.bool x0.halted))]))))))) (Tree.fork (Tree.triv) (Tree.triv)))))) (Tree.triv)))))) (Tree.fork (Tree.triv) (Tree.fork (Tree.fork (Tree.triv) (Tree.fork (Tree.fork (Tree.triv) (Tree.fork (Tree.triv) (Tree.fork (Tree.triv) (Tree.fork (Tree.triv) (Tree.fork (Tree.fork (Tree.triv) (Tree.fork (Tree.triv) (Tree.fork (Tree.triv) (Tree.fork (Tree.triv) (Tree.fork (Tree.triv) (Tree.leaf (SV.agg [(SV.arr IntKind.u32 16 x0.core.regs), (SV.v (Value.int IntKind.u32 x0.core.pc)), (SV.arr IntKind.u32 12 (List.set (List.set (List.set (List.set (List.set x0.core.csr 0 (2 : Int)) 6 x1.snd) 9 (IntKind.wrap IntKind.u32 alarm)) 5 x1.fst) 10 (IntKind.wrap IntKind.u32 (Int.fdiv alarm (4294967296 : Int))))), (SV.rd ETy.u8 x0.mem), (SV.v (Value.int IntKind.u64 x0.time)), (SV.rd ETy.u8 x0.out), (SV.v (Value.bool x0.halted))]))))))) (Tree.triv)))))) (Tree.fork (Tree.triv) (Tree.fork (Tree.triv) (Tree.fork (Tree.fork (Tree.triv) (Tree.fork (Tree.fork (Tree.triv) (Tree.fork (Tree.triv) (Tree.fork (Tree.triv) (Tree.fork (Tree.triv) (Tree.fork (Tree.triv) (Tree.leaf (SV.agg [(SV.arr IntKind.u32 16 x0.core.regs), (SV.v (Value.int IntKind.u32 x0.core.pc)), (SV.arr IntKind.u32 12
 (List.set (List.set (List.set (List.set (List.set x0.core.csr 0 (2 : Int)) 6 x1.snd) 9 (IntKind.wrap IntKind.u32 alarm)) 10 (IntKind.wrap IntKind.u32 (Int.fdiv alarm (4294967296 : Int)))) 5 x1.fst)), (SV.rd ETy.u8 x0.mem), (SV.v (Value.int IntKind.u64 x0.time)), (SV.rd ETy.u8 x0.out), (SV.v (Value.bool x0.halted))]))))))) (Tree.fork (Tree.triv) (Tree.fork (Tree.triv) (Tree.fork (Tree.triv) (Tree.triv)))))) (Tree.triv)))))) (Tree.fork (Tree.fork (Tree.triv) (Tree.fork (Tree.fork (Tree.triv) (Tree.fork (Tree.triv) (Tree.fork (Tree.triv) (Tree.fork (Tree.fork (Tree.triv) (Tree.fork (Tree.triv) (Tree.fork (Tree.triv) (Tree.fork (Tree.triv) (Tree.fork (Tree.triv) (Tree.leaf (SV.agg [(SV.arr IntKind.u32 16 x0.core.regs), (SV.v (Value.int IntKind.u32 x0.core.pc)), (SV.arr IntKind.u32 12 (List.set (List.set (List.set (List.set (List.set x0.core.csr 0 (2 : Int)) 6 x1.snd) 10 (IntKind.wrap IntKind.u32 (Int.fdiv alarm (4294967296 : Int)))) 5 x1.fst) 9 (IntKind.wrap IntKind.u32 alarm))), (SV.rd ETy.u8 x0.mem), (SV.v (Value.int IntKind.u64 x0.time)), (SV.rd ETy.u8 x0.out), (SV.v (Value.bool x0.halted))]))))))) (Tree.fork (Tree.triv) (Tree.triv)))))) (Tree.fork (Tree.triv) (Tree.fork (Tree.fork (Tree.triv) (Tree.fork (Tree.fork (Tree.triv) (Tree.fork (Tree.triv) (Tree.fork (Tree.triv) (Tree.fork (Tree.triv) (Tree.fork (Tree.triv) (Tree.leaf (SV.agg [(SV.arr IntKind.u32 16 x0.core.regs), (SV.v (Value.int IntKind.u32 x0.core.pc)), (SV.arr IntKind.u32 12 (List.set (List.set (List.set (List.set
 (List.set x0.core.csr 0 (2 : Int)) 6 x1.snd) 10 (IntKind.wrap IntKind.u32 (Int.fdiv alarm (4294967296 : Int)))) 9 (IntKind.wrap IntKind.u32 alarm)) 5 x1.fst)), (SV.rd ETy.u8 x0.mem), (SV.v (Value.int IntKind.u64 x0.time)), (SV.rd ETy.u8 x0.out), (SV.v (Value.bool x0.halted))]))))))) (Tree.fork (Tree.triv) (Tree.fork (Tree.triv) (Tree.fork (Tree.triv) (Tree.triv)))))) (Tree.fork (Tree.triv) (Tree.triv)))))) (Tree.triv)))))) (Tree.fork (Tree.fork (Tree.triv) (Tree.fork (Tree.fork (Tree.triv) (Tree.fork (Tree.triv) (Tree.fork (Tree.fork (Tree.triv) (Tree.fork (Tree.triv) (Tree.fork (Tree.triv) (Tree.fork (Tree.triv) (Tree.fork (Tree.fork (Tree.triv) (Tree.fork (Tree.triv) (Tree.fork (Tree.triv) (Tree.fork (Tree.triv) (Tree.fork (Tree.triv) (Tree.leaf (SV.agg [(SV.arr IntKind.u32 16 x0.core.regs), (SV.v (Value.int IntKind.u32 x0.core.pc)), (SV.arr IntKind.u32 12 (List.set (List.set (List.set (List.set (List.set x0.core.csr 0 (2 : Int)) 9 (IntKind.wrap IntKind.u32 alarm)) 5 x1.fst) 6 x1.snd) 10 (IntKind.wrap IntKind.u32 (Int.fdiv alarm (4294967296 : Int))))), (SV.rd ETy.u8 x0.mem), (SV.v (Value.int IntKind.u64 x0.time)), (SV.rd ETy.u8 x0.out), (SV.v (Value.bool x0.halted))]))))))) (Tree.triv)))))) (Tree.fork (Tree.triv) (Tree.fork (Tree.fork (Tree.triv) (Tree.fork (Tree.triv) (Tree.fork (Tree.fork (Tree.triv) (Tree.fork (Tree.triv) (Tree.fork (Tree.triv) (Tree.fork (Tree.triv) (Tree.fork (Tree.triv) (Tree.leaf (SV.agg [(SV.arr IntKind.u32 16 x0.core.regs), (SV.v (Value.int
 IntKind.u32 x0.core.pc)), (SV.arr IntKind.u32 12 (List.set (List.set (List.set (List.set (List.set x0.core.csr 0 (2 : Int)) 9 (IntKind.wrap IntKind.u32 alarm)) 5 x1.fst) 10 (IntKind.wrap IntKind.u32 (Int.fdiv alarm (4294967296 : Int)))) 6 x1.snd)), (SV.rd ETy.u8 x0.mem), (SV.v (Value.int IntKind.u64 x0.time)), (SV.rd ETy.u8 x0.out), (SV.v (Value.bool x0.halted))]))))))) (Tree.fork (Tree.triv) (Tree.fork (Tree.triv) (Tree.triv)))))) (Tree.triv)))))) (Tree.fork (Tree.fork (Tree.triv) (Tree.fork (Tree.fork (Tree.triv) (Tree.fork (Tree.triv) (Tree.fork (Tree.triv) (Tree.fork (Tree.triv) (Tree.fork (Tree.fork (Tree.triv) (Tree.fork (Tree.triv) (Tree.fork (Tree.triv) (Tree.fork (Tree.triv) (Tree.fork (Tree.triv) (Tree.leaf (SV.agg [(SV.arr IntKind.u32 16 x0.core.regs), (SV.v (Value.int IntKind.u32 x0.core.pc)), (SV.arr IntKind.u32 12 (List.set (List.set (List.set (List.set (List.set x0.core.csr 0 (2 : Int)) 9 (IntKind.wrap IntKind.u32 alarm)) 6 x1.snd) 5 x1.fst) 10 (IntKind.wrap IntKind.u32 (Int.fdiv alarm (4294967296 : Int))))), (SV.rd ETy.u8 x0.mem), (SV.v (Value.int IntKind.u64 x0.time)), (SV.rd ETy.u8 x0.out), (SV.v (Value.bool x0.halted))]))))))) (Tree.triv)))))) (Tree.fork (Tree.triv) (Tree.fork (Tree.triv) (Tree.fork (Tree.fork (Tree.triv) (Tree.fork (Tree.fork (Tree.triv) (Tree.fork (Tree.triv) (Tree.fork (Tree.triv) (Tree.fork (Tree.triv) (Tree.fork (Tree.triv) (Tree.leaf (SV.agg [(SV.arr IntKind.u32 16 x0.core.regs), (SV.v (Value.int IntKind.u32 x0.core.pc)), (SV.arr
 IntKind.u32 12 (List.set (List.set (List.set (List.set (List.set x0.core.csr 0 (2 : Int)) 9 (IntKind.wrap IntKind.u32 alarm)) 6 x1.snd) 10 (IntKind.wrap IntKind.u32 (Int.fdiv alarm (4294967296 : Int)))) 5 x1.fst)), (SV.rd ETy.u8 x0.mem), (SV.v (Value.int IntKind.u64 x0.time)), (SV.rd ETy.u8 x0.out), (SV.v (Value.bool x0.halted))]))))))) (Tree.fork (Tree.triv) (Tree.fork (Tree.triv) (Tree.fork (Tree.triv) (Tree.triv)))))) (Tree.triv)))))) (Tree.fork (Tree.triv) (Tree.fork (Tree.fork (Tree.triv) (Tree.fork (Tree.fork (Tree.triv) (Tree.fork (Tree.triv) (Tree.fork (Tree.fork (Tree.triv) (Tree.fork (Tree.triv) (Tree.fork (Tree.triv) (Tree.fork (Tree.triv) (Tree.fork (Tree.triv) (Tree.leaf (SV.agg [(SV.arr IntKind.u32 16 x0.core.regs), (SV.v (Value.int IntKind.u32 x0.core.pc)), (SV.arr IntKind.u32 12 (List.set (List.set (List.set (List.set (List.set x0.core.csr 0 (2 : Int)) 9 (IntKind.wrap IntKind.u32 alarm)) 10 (IntKind.wrap IntKind.u32 (Int.fdiv alarm (4294967296 : Int)))) 5 x1.fst) 6 x1.snd)), (SV.rd ETy.u8 x0.mem), (SV.v (Value.int IntKind.u64 x0.time)), (SV.rd ETy.u8 x0.out), (SV.v (Value.bool x0.halted))]))))))) (Tree.fork (Tree.triv) (Tree.fork (Tree.triv) (Tree.triv)))))) (Tree.fork (Tree.fork (Tree.triv) (Tree.fork (Tree.fork (Tree.triv) (Tree.fork (Tree.triv) (Tree.fork (Tree.triv) (Tree.fork (Tree.triv) (Tree.fork (Tree.triv) (Tree.leaf (SV.agg [(SV.arr IntKind.u32 16 x0.core.regs), (SV.v (Value.int IntKind.u32 x0.core.pc)), (SV.arr IntKind.u32 12 (List.set (List.set
 (List.set (List.set (List.set x0.core.csr 0 (2 : Int)) 9 (IntKind.wrap IntKind.u32 alarm)) 10 (IntKind.wrap IntKind.u32 (Int.fdiv alarm (4294967296 : Int)))) 6 x1.snd) 5 x1.fst)), (SV.rd ETy.u8 x0.mem), (SV.v (Value.int IntKind.u64 x0.time)), (SV.rd ETy.u8 x0.out), (SV.v (Value.bool x0.halted))]))))))) (Tree.fork (Tree.triv) (Tree.fork (Tree.triv) (Tree.fork (Tree.triv) (Tree.triv)))))) (Tree.fork (Tree.triv) (Tree.fork (Tree.triv) (Tree.triv)))))) (Tree.triv)))))) (Tree.fork (Tree.fork (Tree.triv) (Tree.fork (Tree.fork (Tree.triv) (Tree.fork (Tree.triv) (Tree.fork (Tree.fork (Tree.triv) (Tree.fork (Tree.triv) (Tree.fork (Tree.triv) (Tree.fork (Tree.fork (Tree.triv) (Tree.fork (Tree.triv) (Tree.fork (Tree.triv) (Tree.fork (Tree.triv) (Tree.fork (Tree.triv) (Tree.leaf (SV.agg [(SV.arr IntKind.u32 16 x0.core.regs), (SV.v (Value.int IntKind.u32 x0.core.pc)), (SV.arr IntKind.u32 12 (List.set (List.set (List.set (List.set (List.set x0.core.csr 0 (2 : Int)) 10 (IntKind.wrap IntKind.u32 (Int.fdiv alarm (4294967296 : Int)))) 5 x1.fst) 6 x1.snd) 9 (IntKind.wrap IntKind.u32 alarm))), (SV.rd ETy.u8 x0.mem), (SV.v (Value.int IntKind.u64 x0.time)), (SV.rd ETy.u8 x0.out), (SV.v (Value.bool x0.halted))]))))))) (Tree.fork (Tree.triv) (Tree.triv)))))) (Tree.fork (Tree.fork (Tree.triv) (Tree.fork (Tree.triv) (Tree.fork (Tree.fork (Tree.triv) (Tree.fork (Tree.triv) (Tree.fork (Tree.triv) (Tree.fork (Tree.triv) (Tree.fork (Tree.triv) (Tree.leaf (SV.agg [(SV.arr IntKind.u32 16 x0.core.regs), (SV.v
 (Value.int IntKind.u32 x0.core.pc)), (SV.arr IntKind.u32 12 (List.set (List.set (List.set (List.set (List.set x0.core.csr 0 (2 : Int)) 10 (IntKind.wrap IntKind.u32 (Int.fdiv alarm (4294967296 : Int)))) 5 x1.fst) 9 (IntKind.wrap IntKind.u32 alarm)) 6 x1.snd)), (SV.rd ETy.u8 x0.mem), (SV.v (Value.int IntKind.u64 x0.time)), (SV.rd ETy.u8 x0.out), (SV.v (Value.bool x0.halted))]))))))) (Tree.fork (Tree.triv) (Tree.fork (Tree.triv) (Tree.triv)))))) (Tree.fork (Tree.triv) (Tree.triv)))))) (Tree.fork (Tree.fork (Tree.triv) (Tree.fork (Tree.fork (Tree.triv) (Tree.fork (Tree.triv) (Tree.fork (Tree.triv) (Tree.fork (Tree.fork (Tree.triv) (Tree.fork (Tree.triv) (Tree.fork (Tree.triv) (Tree.fork (Tree.triv) (Tree.fork (Tree.triv) (Tree.leaf (SV.agg [(SV.arr IntKind.u32 16 x0.core.regs), (SV.v (Value.int IntKind.u32 x0.core.pc)), (SV.arr IntKind.u32 12 (List.set (List.set (List.set (List.set (List.set x0.core.csr 0 (2 : Int)) 10 (IntKind.wrap IntKind.u32 (Int.fdiv alarm (4294967296 : Int)))) 6 x1.snd) 5 x1.fst) 9 (IntKind.wrap IntKind.u32 alarm))), (SV.rd ETy.u8 x0.mem), (SV.v (Value.int IntKind.u64 x0.time)), (SV.rd ETy.u8 x0.out), (SV.v (Value.bool x0.halted))]))))))) (Tree.fork (Tree.triv) (Tree.triv)))))) (Tree.fork (Tree.triv) (Tree.fork (Tree.fork (Tree.triv) (Tree.fork (Tree.fork (Tree.triv) (Tree.fork (Tree.triv) (Tree.fork (Tree.triv) (Tree.fork (Tree.triv) (Tree.fork (Tree.triv) (Tree.leaf (SV.agg [(SV.arr IntKind.u32 16 x0.core.regs), (SV.v (Value.int IntKind.u32 x0.core.pc)),
 (SV.arr IntKind.u32 12 (List.set (List.set (List.set (List.set (List.set x0.core.csr 0 (2 : Int)) 10 (IntKind.wrap IntKind.u32 (Int.fdiv alarm (4294967296 : Int)))) 6 x1.snd) 9 (IntKind.wrap IntKind.u32 alarm)) 5 x1.fst)), (SV.rd ETy.u8 x0.mem), (SV.v (Value.int IntKind.u64 x0.time)), (SV.rd ETy.u8 x0.out), (SV.v (Value.bool x0.halted))]))))))) (Tree.fork (Tree.triv) (Tree.fork (Tree.triv) (Tree.fork (Tree.triv) (Tree.triv)))))) (Tree.fork (Tree.triv) (Tree.triv)))))) (Tree.fork (Tree.fork (Tree.triv) (Tree.fork (Tree.fork (Tree.triv) (Tree.fork (Tree.triv) (Tree.fork (Tree.fork (Tree.triv) (Tree.fork (Tree.triv) (Tree.fork (Tree.triv) (Tree.fork (Tree.triv) (Tree.fork (Tree.triv) (Tree.leaf (SV.agg [(SV.arr IntKind.u32 16 x0.core.regs), (SV.v (Value.int IntKind.u32 x0.core.pc)), (SV.arr IntKind.u32 12 (List.set (List.set (List.set (List.set (List.set x0.core.csr 0 (2 : Int)) 10 (IntKind.wrap IntKind.u32 (Int.fdiv alarm (4294967296 : Int)))) 9 (IntKind.wrap IntKind.u32 alarm)) 5 x1.fst) 6 x1.snd)), (SV.rd ETy.u8 x0.mem), (SV.v (Value.int IntKind.u64 x0.time)), (SV.rd ETy.u8 x0.out), (SV.v (Value.bool x0.halted))]))))))) (Tree.fork (Tree.triv) (Tree.fork (Tree.triv) (Tree.triv)))))) (Tree.fork (Tree.fork (Tree.triv) (Tree.fork (Tree.fork (Tree.triv) (Tree.fork (Tree.triv) (Tree.fork (Tree.triv) (Tree.fork (Tree.triv) (Tree.fork (Tree.triv) (Tree.leaf (SV.agg [(SV.arr IntKind.u32 16 x0.core.regs), (SV.v (Value.int IntKind.u32 x0.core.pc)), (SV.arr IntKind.u32 12 (List.set
 (List.set (List.set (List.set (List.set x0.core.csr 0 (2 : Int)) 10 (IntKind.wrap IntKind.u32 (Int.fdiv alarm (4294967296 : Int)))) 9 (IntKind.wrap IntKind.u32 alarm)) 6 x1.snd) 5 x1.fst)), (SV.rd ETy.u8 x0.mem), (SV.v (Value.int IntKind.u64 x0.time)), (SV.rd ETy.u8 x0.out), (SV.v (Value.bool x0.halted))]))))))) (Tree.fork (Tree.triv) (Tree.fork (Tree.triv) (Tree.fork (Tree.triv) (Tree.triv)))))) (Tree.fork (Tree.triv) (Tree.fork (Tree.triv) (Tree.triv)))))) (Tree.fork (Tree.triv) (Tree.triv)))))) (Tree.triv)))))) (Tree.fork (Tree.fork (Tree.fork (Tree.triv) (Tree.fork (Tree.triv) (Tree.fork (Tree.fork (Tree.triv) (Tree.fork (Tree.triv) (Tree.fork (Tree.triv) (Tree.fork (Tree.fork (Tree.triv) (Tree.fork (Tree.triv) (Tree.fork (Tree.triv) (Tree.fork (Tree.triv) (Tree.fork (Tree.fork (Tree.triv) (Tree.fork (Tree.triv) (Tree.fork (Tree.triv) (Tree.fork (Tree.triv) (Tree.fork (Tree.triv) (Tree.leaf (SV.agg [(SV.arr IntKind.u32 16 x0.core.regs), (SV.v (Value.int IntKind.u32 x0.core.pc)), (SV.arr IntKind.u32 12 (List.set (List.set (List.set (List.set (List.set x0.core.csr 5 x1.fst) 0 (2 : Int)) 6 x1.snd) 9 (IntKind.wrap IntKind.u32 alarm)) 10 (IntKind.wrap IntKind.u32 (Int.fdiv alarm (4294967296 : Int))))), (SV.rd ETy.u8 x0.mem), (SV.v (Value.int IntKind.u64 x0.time)), (SV.rd ETy.u8 x0.out), (SV.v (Value.bool x0.halted))]))))))) (Tree.triv)))))) (Tree.fork (Tree.fork (Tree.triv) (Tree.fork (Tree.triv) (Tree.fork (Tree.triv) (Tree.fork (Tree.fork (Tree.triv) (Tree.fork (Tree.triv)
 (Tree.fork (Tree.triv) (Tree.fork (Tree.triv) (Tree.fork (Tree.triv) (Tree.leaf (SV.agg [(SV.arr IntKind.u32 16 x0.core.regs), (SV.v (Value.int IntKind.u32 x0.core.pc)), (SV.arr IntKind.u32 12 (List.set (List.set (List.set (List.set (List.set x0.core.csr 5 x1.fst) 0 (2 : Int)) 6 x1.snd) 10 (IntKind.wrap IntKind.u32 (Int.fdiv alarm (4294967296 : Int)))) 9 (IntKind.wrap IntKind.u32 alarm))), (SV.rd ETy.u8 x0.mem), (SV.v (Value.int IntKind.u64 x0.time)), (SV.rd ETy.u8 x0.out), (SV.v (Value.bool x0.halted))]))))))) (Tree.fork (Tree.triv) (Tree.triv)))))) (Tree.triv)))))) (Tree.fork (Tree.fork (Tree.triv) (Tree.fork (Tree.triv) (Tree.fork (Tree.fork (Tree.triv) (Tree.fork (Tree.triv) (Tree.fork (Tree.triv) (Tree.fork (Tree.triv) (Tree.fork (Tree.fork (Tree.triv) (Tree.fork (Tree.triv) (Tree.fork (Tree.triv) (Tree.fork (Tree.triv) (Tree.fork (Tree.triv) (Tree.leaf (SV.agg [(SV.arr IntKind.u32 16 x0.core.regs), (SV.v (Value.int IntKind.u32 x0.core.pc)), (SV.arr IntKind.u32 12 (List.set (List.set (List.set (List.set (List.set x0.core.csr 5 x1.fst) 0 (2 : Int)) 9 (IntKind.wrap IntKind.u32 alarm)) 6 x1.snd) 10 (IntKind.wrap IntKind.u32 (Int.fdiv alarm (4294967296 : Int))))), (SV.rd ETy.u8 x0.mem), (SV.v (Value.int IntKind.u64 x0.time)), (SV.rd ETy.u8 x0.out), (SV.v (Value.bool x0.halted))]))))))) (Tree.triv)))))) (Tree.fork (Tree.triv) (Tree.fork (Tree.fork (Tree.triv) (Tree.fork (Tree.triv) (Tree.fork (Tree.fork (Tree.triv) (Tree.fork (Tree.triv) (Tree.fork (Tree.triv) (Tree.fork
 (Tree.triv) (Tree.fork (Tree.triv) (Tree.leaf (SV.agg [(SV.arr IntKind.u32 16 x0.core.regs), (SV.v (Value.int IntKind.u32 x0.core.pc)), (SV.arr IntKind.u32 12 (List.set (List.set (List.set (List.set (List.set x0.core.csr 5 x1.fst) 0 (2 : Int)) 9 (IntKind.wrap IntKind.u32 alarm)) 10 (IntKind.wrap IntKind.u32 (Int.fdiv alarm (4294967296 : Int)))) 6 x1.snd)), (SV.rd ETy.u8 x0.mem), (SV.v (Value.int IntKind.u64 x0.time)), (SV.rd ETy.u8 x0.out), (SV.v (Value.bool x0.halted))]))))))) (Tree.fork (Tree.triv) (Tree.fork (Tree.triv) (Tree.triv)))))) (Tree.triv)))))) (Tree.fork (Tree.fork (Tree.triv) (Tree.fork (Tree.triv) (Tree.fork (Tree.fork (Tree.triv) (Tree.fork (Tree.triv) (Tree.fork (Tree.triv) (Tree.fork (Tree.fork (Tree.triv) (Tree.fork (Tree.triv) (Tree.fork (Tree.triv) (Tree.fork (Tree.triv) (Tree.fork (Tree.triv) (Tree.leaf (SV.agg [(SV.arr IntKind.u32 16 x0.core.regs), (SV.v (Value.int IntKind.u32 x0.core.pc)), (SV.arr IntKind.u32 12 (List.set (List.set (List.set (List.set (List.set x0.core.csr 5 x1.fst) 0 (2 : Int)) 10 (IntKind.wrap IntKind.u32 (Int.fdiv alarm (4294967296 : Int)))) 6 x1.snd) 9 (IntKind.wrap IntKind.u32 alarm))), (SV.rd ETy.u8 x0.mem), (SV.v (Value.int IntKind.u64 x0.time)), (SV.rd ETy.u8 x0.out), (SV.v (Value.bool x0.halted))]))))))) (Tree.fork (Tree.triv) (Tree.triv)))))) (Tree.fork (Tree.fork (Tree.triv) (Tree.fork (Tree.triv) (Tree.fork (Tree.fork (Tree.triv) (Tree.fork (Tree.triv) (Tree.fork (Tree.triv) (Tree.fork (Tree.triv) (Tree.fork (Tree.triv)
 (Tree.leaf (SV.agg [(SV.arr IntKind.u32 16 x0.core.regs), (SV.v (Value.int IntKind.u32 x0.core.pc)), (SV.arr IntKind.u32 12 (List.set (List.set (List.set (List.set (List.set x0.core.csr 5 x1.fst) 0 (2 : Int)) 10 (IntKind.wrap IntKind.u32 (Int.fdiv alarm (4294967296 : Int)))) 9 (IntKind.wrap IntKind.u32 alarm)) 6 x1.snd)), (SV.rd ETy.u8 x0.mem), (SV.v (Value.int IntKind.u64 x0.time)), (SV.rd ETy.u8 x0.out), (SV.v (Value.bool x0.halted))]))))))) (Tree.fork (Tree.triv) (Tree.fork (Tree.triv) (Tree.triv)))))) (Tree.fork (Tree.triv) (Tree.triv)))))) (Tree.triv)))))) (Tree.fork (Tree.triv) (Tree.fork (Tree.fork (Tree.fork (Tree.triv) (Tree.fork (Tree.triv) (Tree.fork (Tree.triv) (Tree.fork (Tree.fork (Tree.triv) (Tree.fork (Tree.triv) (Tree.fork (Tree.triv) (Tree.fork (Tree.triv) (Tree.fork (Tree.fork (Tree.triv) (Tree.fork (Tree.triv) (Tree.fork (Tree.triv) (Tree.fork (Tree.triv) (Tree.fork (Tree.triv) (Tree.leaf (SV.agg [(SV.arr IntKind.u32 16 x0.core.regs), (SV.v (Value.int IntKind.u32 x0.core.pc)), (SV.arr IntKind.u32 12 (List.set (List.set (List.set (List.set (List.set x0.core.csr 5 x1.fst) 6 x1.snd) 0 (2 : Int)) 9 (IntKind.wrap IntKind.u32 alarm)) 10 (IntKind.wrap IntKind.u32 (Int.fdiv alarm (4294967296 : Int))))), (SV.rd ETy.u8 x0.mem), (SV.v (Value.int IntKind.u64 x0.time)), (SV.rd ETy.u8 x0.out), (SV.v (Value.bool x0.halted))]))))))) (Tree.triv)))))) (Tree.fork (Tree.fork (Tree.triv) (Tree.fork (Tree.triv) (Tree.fork (Tree.triv) (Tree.fork (Tree.fork (Tree.triv) (Tree.fork
 (Tree.triv) (Tree.fork (Tree.triv) (Tree.fork (Tree.triv) (Tree.fork (Tree.triv) (Tree.leaf (SV.agg [(SV.arr IntKind.u32 16 x0.core.regs), (SV.v (Value.int IntKind.u32 x0.core.pc)), (SV.arr IntKind.u32 12 (List.set (List.set (List.set (List.set (List.set x0.core.csr 5 x1.fst) 6 x1.snd) 0 (2 : Int)) 10 (IntKind.wrap IntKind.u32 (Int.fdiv alarm (4294967296 : Int)))) 9 (IntKind.wrap IntKind.u32 alarm))), (SV.rd ETy.u8 x0.mem), (SV.v (Value.int IntKind.u64 x0.time)), (SV.rd ETy.u8 x0.out), (SV.v (Value.bool x0.halted))]))))))) (Tree.fork (Tree.triv) (Tree.triv)))))) (Tree.triv)))))) (Tree.fork (Tree.triv) (Tree.fork (Tree.triv) (Tree.fork (Tree.fork (Tree.fork (Tree.triv) (Tree.fork (Tree.triv) (Tree.fork (Tree.triv) (Tree.fork (Tree.triv) (Tree.fork (Tree.fork (Tree.triv) (Tree.fork (Tree.triv) (Tree.fork (Tree.triv) (Tree.fork (Tree.triv) (Tree.fork (Tree.triv) (Tree.leaf (SV.agg [(SV.arr IntKind.u32 16 x0.core.regs), (SV.v (Value.int IntKind.u32 x0.core.pc)), (SV.arr IntKind.u32 12 (List.set (List.set (List.set (List.set (List.set x0.core.csr 5 x1.fst) 6 x1.snd) 9 (IntKind.wrap IntKind.u32 alarm)) 0 (2 : Int)) 10 (IntKind.wrap IntKind.u32 (Int.fdiv alarm (4294967296 : Int))))), (SV.rd ETy.u8 x0.mem), (SV.v (Value.int IntKind.u64 x0.time)), (SV.rd ETy.u8 x0.out), (SV.v (Value.bool x0.halted))]))))))) (Tree.triv)))))) (Tree.fork (Tree.triv) (Tree.fork (Tree.triv) (Tree.fork (Tree.triv) (Tree.fork (Tree.fork (Tree.fork (Tree.triv) (Tree.fork (Tree.triv) (Tree.fork (Tree.triv)
 (Tree.fork (Tree.triv) (Tree.fork (Tree.triv) (Tree.leaf (SV.agg [(SV.arr IntKind.u32 16 x0.core.regs), (SV.v (Value.int IntKind.u32 x0.core.pc)), (SV.arr IntKind.u32 12 (List.set (List.set (List.set (List.set (List.set x0.core.csr 5 x1.fst) 6 x1.snd) 9 (IntKind.wrap IntKind.u32 alarm)) 10 (IntKind.wrap IntKind.u32 (Int.fdiv alarm (4294967296 : Int)))) 0 (2 : Int))), (SV.rd ETy.u8 x0.mem), (SV.v (Value.int IntKind.u64 x0.time)), (SV.rd ETy.u8 x0.out), (SV.v (Value.bool x0.halted))]))))))) (Tree.fork (Tree.triv) (Tree.fork (Tree.triv) (Tree.fork (Tree.triv) (Tree.fork (Tree.triv) (Tree.triv)))))) (Tree.triv)))))) (Tree.fork (Tree.fork (Tree.fork (Tree.triv) (Tree.fork (Tree.triv) (Tree.fork (Tree.triv) (Tree.fork (Tree.fork (Tree.triv) (Tree.fork (Tree.triv) (Tree.fork (Tree.triv) (Tree.fork (Tree.triv) (Tree.fork (Tree.triv) (Tree.leaf (SV.agg [(SV.arr IntKind.u32 16 x0.core.regs), (SV.v (Value.int IntKind.u32 x0.core.pc)), (SV.arr IntKind.u32 12 (List.set (List.set (List.set (List.set (List.set x0.core.csr 5 x1.fst) 6 x1.snd) 10 (IntKind.wrap IntKind.u32 (Int.fdiv alarm (4294967296 : Int)))) 0 (2 : Int)) 9 (IntKind.wrap IntKind.u32 alarm))), (SV.rd ETy.u8 x0.mem), (SV.v (Value.int IntKind.u64 x0.time)), (SV.rd ETy.u8 x0.out), (SV.v (Value.bool x0.halted))]))))))) (Tree.fork (Tree.triv) (Tree.triv)))))) (Tree.fork (Tree.triv) (Tree.fork (Tree.triv) (Tree.fork (Tree.fork (Tree.fork (Tree.triv) (Tree.fork (Tree.triv) (Tree.fork (Tree.triv) (Tree.fork (Tree.triv) (Tree.fork
 (Tree.triv) (Tree.leaf (SV.agg [(SV.arr IntKind.u32 16 x0.core.regs), (SV.v (Value.int IntKind.u32 x0.core.pc)), (SV.arr IntKind.u32 12 (List.set (List.set (List.set (List.set (List.set x0.core.csr 5 x1.fst) 6 x1.snd) 10 (IntKind.wrap IntKind.u32 (Int.fdiv alarm (4294967296 : Int)))) 9 (IntKind.wrap IntKind.u32 alarm)) 0 (2 : Int))), (SV.rd ETy.u8 x0.mem), (SV.v (Value.int IntKind.u64 x0.time)), (SV.rd ETy.u8 x0.out), (SV.v (Value.bool x0.halted))]))))))) (Tree.fork (Tree.triv) (Tree.fork (Tree.triv) (Tree.fork (Tree.triv) (Tree.fork (Tree.triv) (Tree.triv)))))) (Tree.fork (Tree.triv) (Tree.triv)))))) (Tree.triv)))))) (Tree.fork (Tree.fork (Tree.fork (Tree.triv) (Tree.fork (Tree.triv) (Tree.fork (Tree.fork (Tree.triv) (Tree.fork (Tree.triv) (Tree.fork (Tree.triv) (Tree.fork (Tree.triv) (Tree.fork (Tree.fork (Tree.triv) (Tree.fork (Tree.triv) (Tree.fork (Tree.triv) (Tree.fork (Tree.triv) (Tree.fork (Tree.triv) (Tree.leaf (SV.agg [(SV.arr IntKind.u32 16 x0.core.regs), (SV.v (Value.int IntKind.u32 x0.core.pc)), (SV.arr IntKind.u32 12 (List.set (List.set (List.set (List.set (List.set x0.core.csr 5 x1.fst) 9 (IntKind.wrap IntKind.u32 alarm)) 0 (2 : Int)) 6 x1.snd) 10 (IntKind.wrap IntKind.u32 (Int.fdiv alarm (4294967296 : Int))))), (SV.rd ETy.u8 x0.mem), (SV.v (Value.int IntKind.u64 x0.time)), (SV.rd ETy.u8 x0.out), (SV.v (Value.bool x0.halted))]))))))) (Tree.triv)))))) (Tree.fork (Tree.triv) (Tree.fork (Tree.fork (Tree.triv) (Tree.fork (Tree.triv) (Tree.fork (Tree.fork (Tree.triv)
 (Tree.fork (Tree.triv) (Tree.fork (Tree.triv) (Tree.fork (Tree.triv) (Tree.fork (Tree.triv) (Tree.leaf (SV.agg [(SV.arr IntKind.u32 16 x0.core.regs), (SV.v (Value.int IntKind.u32 x0.core.pc)), (SV.arr IntKind.u32 12 (List.set (List.set (List.set (List.set (List.set x0.core.csr 5 x1.fst) 9 (IntKind.wrap IntKind.u32 alarm)) 0 (2 : Int)) 10 (IntKind.wrap IntKind.u32 (Int.fdiv alarm (4294967296 : Int)))) 6 x1.snd)), (SV.rd ETy.u8 x0.mem), (SV.v (Value.int IntKind.u64 x0.time)), (SV.rd ETy.u8 x0.out), (SV.v (Value.bool x0.halted))]))))))) (Tree.fork (Tree.triv) (Tree.fork (Tree.triv) (Tree.triv)))))) (Tree.triv)))))) (Tree.fork (Tree.triv) (Tree.fork (Tree.fork (Tree.fork (Tree.triv) (Tree.fork (Tree.triv) (Tree.fork (Tree.triv) (Tree.fork (Tree.triv) (Tree.fork (Tree.fork (Tree.triv) (Tree.fork (Tree.triv) (Tree.fork (Tree.triv) (Tree.fork (Tree.triv) (Tree.fork (Tree.triv) (Tree.leaf (SV.agg [(SV.arr IntKind.u32 16 x0.core.regs), (SV.v (Value.int IntKind.u32 x0.core.pc)), (SV.arr IntKind.u32 12 (List.set (List.set (List.set (List.set (List.set x0.core.csr 5 x1.fst) 9 (IntKind.wrap IntKind.u32 alarm)) 6 x1.snd) 0 (2 : Int)) 10 (IntKind.wrap IntKind.u32 (Int.fdiv alarm (4294967296 : Int))))), (SV.rd ETy.u8 x0.mem), (SV.v (Value.int IntKind.u64 x0.time)), (SV.rd ETy.u8 x0.out), (SV.v (Value.bool x0.halted))]))))))) (Tree.triv)))))) (Tree.fork (Tree.triv) (Tree.fork (Tree.triv) (Tree.fork (Tree.triv) (Tree.fork (Tree.fork (Tree.fork (Tree.triv) (Tree.fork (Tree.triv) (Tree.fork
 (Tree.triv) (Tree.fork (Tree.triv) (Tree.fork (Tree.triv) (Tree.leaf (SV.agg [(SV.arr IntKind.u32 16 x0.core.regs), (SV.v (Value.int IntKind.u32 x0.core.pc)), (SV.arr IntKind.u32 12 (List.set (List.set (List.set (List.set (List.set x0.core.csr 5 x1.fst) 9 (IntKind.wrap IntKind.u32 alarm)) 6 x1.snd) 10 (IntKind.wrap IntKind.u32 (Int.fdiv alarm (4294967296 : Int)))) 0 (2 : Int))), (SV.rd ETy.u8 x0.mem), (SV.v (Value.int IntKind.u64 x0.time)), (SV.rd ETy.u8 x0.out), (SV.v (Value.bool x0.halted))]))))))) (Tree.fork (Tree.triv) (Tree.fork (Tree.triv) (Tree.fork (Tree.triv) (Tree.fork (Tree.triv) (Tree.triv)))))) (Tree.triv)))))) (Tree.fork (Tree.triv) (Tree.fork (Tree.fork (Tree.fork (Tree.triv) (Tree.fork (Tree.triv) (Tree.fork (Tree.fork (Tree.triv) (Tree.fork (Tree.triv) (Tree.fork (Tree.triv) (Tree.fork (Tree.triv) (Tree.fork (Tree.triv) (Tree.leaf (SV.agg [(SV.arr IntKind.u32 16 x0.core.regs), (SV.v (Value.int IntKind.u32 x0.core.pc)), (SV.arr IntKind.u32 12 (List.set (List.set (List.set (List.set (List.set x0.core.csr 5 x1.fst) 9 (IntKind.wrap IntKind.u32 alarm)) 10 (IntKind.wrap IntKind.u32 (Int.fdiv alarm (4294967296 : Int)))) 0 (2 : Int)) 6 x1.snd)), (SV.rd ETy.u8 x0.mem), (SV.v (Value.int IntKind.u64 x0.time)), (SV.rd ETy.u8 x0.out), (SV.v (Value.bool x0.halted))]))))))) (Tree.fork (Tree.triv) (Tree.fork (Tree.triv) (Tree.triv)))))) (Tree.fork (Tree.triv) (Tree.fork (Tree.fork (Tree.fork (Tree.triv) (Tree.fork (Tree.triv) (Tree.fork (Tree.triv) (Tree.fork (Tree.triv)
 (Tree.fork (Tree.triv) (Tree.leaf (SV.agg [(SV.arr IntKind.u32 16 x0.core.regs), (SV.v (Value.int IntKind.u32 x0.core.pc)), (SV.arr IntKind.u32 12 (List.set (List.set (List.set (List.set (List.set x0.core.csr 5 x1.fst) 9 (IntKind.wrap IntKind.u32 alarm)) 10 (IntKind.wrap IntKind.u32 (Int.fdiv alarm (4294967296 : Int)))) 6 x1.snd) 0 (2 : Int))), (SV.rd ETy.u8 x0.mem), (SV.v (Value.int IntKind.u64 x0.time)), (SV.rd ETy.u8 x0.out), (SV.v (Value.bool x0.halted))]))))))) (Tree.fork (Tree.triv) (Tree.fork (Tree.triv) (Tree.fork (Tree.triv) (Tree.fork (Tree.triv) (Tree.triv)))))) (Tree.fork (Tree.triv) (Tree.fork (Tree.triv) (Tree.triv)))))) (Tree.triv)))))) (Tree.fork (Tree.fork (Tree.fork (Tree.triv) (Tree.fork (Tree.triv) (Tree.fork (Tree.fork (Tree.triv) (Tree.fork (Tree.triv) (Tree.fork (Tree.triv) (Tree.fork (Tree.fork (Tree.triv) (Tree.fork (Tree.triv) (Tree.fork (Tree.triv) (Tree.fork (Tree.triv) (Tree.fork (Tree.triv) (Tree.leaf (SV.agg [(SV.arr IntKind.u32 16 x0.core.regs), (SV.v (Value.int IntKind.u32 x0.core.pc)), (SV.arr IntKind.u32 12 (List.set (List.set (List.set (List.set (List.set x0.core.csr 5 x1.fst) 10 (IntKind.wrap IntKind.u32 (Int.fdiv alarm (4294967296 : Int)))) 0 (2 : Int)) 6 x1.snd) 9 (IntKind.wrap IntKind.u32 alarm))), (SV.rd ETy.u8 x0.mem), (SV.v (Value.int IntKind.u64 x0.time)), (SV.rd ETy.u8 x0.out), (SV.v (Value.bool x0.halted))]))))))) (Tree.fork (Tree.triv) (Tree.triv)))))) (Tree.fork (Tree.fork (Tree.triv) (Tree.fork (Tree.triv) (Tree.fork (Tree.fork
 (Tree.triv) (Tree.fork (Tree.triv) (Tree.fork (Tree.triv) (Tree.fork (Tree.triv) (Tree.fork (Tree.triv) (Tree.leaf (SV.agg [(SV.arr IntKind.u32 16 x0.core.regs), (SV.v (Value.int IntKind.u32 x0.core.pc)), (SV.arr IntKind.u32 12 (List.set (List.set (List.set (List.set (List.set x0.core.csr 5 x1.fst) 10 (IntKind.wrap IntKind.u32 (Int.fdiv alarm (4294967296 : Int)))) 0 (2 : Int)) 9 (IntKind.wrap IntKind.u32 alarm)) 6 x1.snd)), (SV.rd ETy.u8 x0.mem), (SV.v (Value.int IntKind.u64 x0.time)), (SV.rd ETy.u8 x0.out), (SV.v (Value.bool x0.halted))]))))))) (Tree.fork (Tree.triv) (Tree.fork (Tree.triv) (Tree.triv)))))) (Tree.fork (Tree.triv) (Tree.triv)))))) (Tree.fork (Tree.triv) (Tree.fork (Tree.fork (Tree.fork (Tree.triv) (Tree.fork (Tree.triv) (Tree.fork (Tree.triv) (Tree.fork (Tree.fork (Tree.triv) (Tree.fork (Tree.triv) (Tree.fork (Tree.triv) (Tree.fork (Tree.triv) (Tree.fork (Tree.triv) (Tree.leaf (SV.agg [(SV.arr IntKind.u32 16 x0.core.regs), (SV.v (Value.int IntKind.u32 x0.core.pc)), (SV.arr IntKind.u32 12 (List.set (List.set (List.set (List.set (List.set x0.core.csr 5 x1.fst) 10 (IntKind.wrap IntKind.u32 (Int.fdiv alarm (4294967296 : Int)))) 6 x1.snd) 0 (2 : Int)) 9 (IntKind.wrap IntKind.u32 alarm))), (SV.rd ETy.u8 x0.mem), (SV.v (Value.int IntKind.u64 x0.time)), (SV.rd ETy.u8 x0.out), (SV.v (Value.bool x0.halted))]))))))) (Tree.fork (Tree.triv) (Tree.triv)))))) (Tree.fork (Tree.triv) (Tree.fork (Tree.triv) (Tree.fork (Tree.fork (Tree.fork (Tree.triv) (Tree.fork (Tree.triv)
 (Tree.fork (Tree.triv) (Tree.fork (Tree.triv) (Tree.fork (Tree.triv) (Tree.leaf (SV.agg [(SV.arr IntKind.u32 16 x0.core.regs), (SV.v (Value.int IntKind.u32 x0.core.pc)), (SV.arr IntKind.u32 12 (List.set (List.set (List.set (List.set (List.set x0.core.csr 5 x1.fst) 10 (IntKind.wrap IntKind.u32 (Int.fdiv alarm (4294967296 : Int)))) 6 x1.snd) 9 (IntKind.wrap IntKind.u32 alarm)) 0 (2 : Int))), (SV.rd ETy.u8 x0.mem), (SV.v (Value.int IntKind.u64 x0.time)), (SV.rd ETy.u8 x0.out), (SV.v (Value.bool x0.halted))]))))))) (Tree.fork (Tree.triv) (Tree.fork (Tree.triv) (Tree.fork (Tree.triv) (Tree.fork (Tree.triv) (Tree.triv)))))) (Tree.fork (Tree.triv) (Tree.triv)))))) (Tree.fork (Tree.fork (Tree.fork (Tree.triv) (Tree.fork (Tree.triv) (Tree.fork (Tree.fork (Tree.triv) (Tree.fork (Tree.triv) (Tree.fork (Tree.triv) (Tree.fork (Tree.triv) (Tree.fork (Tree.triv) (Tree.leaf (SV.agg [(SV.arr IntKind.u32 16 x0.core.regs), (SV.v (Value.int IntKind.u32 x0.core.pc)), (SV.arr IntKind.u32 12 (List.set (List.set (List.set (List.set (List.set x0.core.csr 5 x1.fst) 10 (IntKind.wrap IntKind.u32 (Int.fdiv alarm (4294967296 : Int)))) 9 (IntKind.wrap IntKind.u32 alarm)) 0 (2 : Int)) 6 x1.snd)), (SV.rd ETy.u8 x0.mem), (SV.v (Value.int IntKind.u64 x0.time)), (SV.rd ETy.u8 x0.out), (SV.v (Value.bool x0.halted))]))))))) (Tree.fork (Tree.triv) (Tree.fork (Tree.triv) (Tree.triv)))))) (Tree.fork (Tree.triv) (Tree.fork (Tree.fork (Tree.fork (Tree.triv) (Tree.fork (Tree.triv) (Tree.fork (Tree.triv) (Tree.fork
 (Tree.triv) (Tree.fork (Tree.triv) (Tree.leaf (SV.agg [(SV.arr IntKind.u32 16 x0.core.regs), (SV.v (Value.int IntKind.u32 x0.core.pc)), (SV.arr IntKind.u32 12 (List.set (List.set (List.set (List.set (List.set x0.core.csr 5 x1.fst) 10 (IntKind.wrap IntKind.u32 (Int.fdiv alarm (4294967296 : Int)))) 9 (IntKind.wrap IntKind.u32 alarm)) 6 x1.snd) 0 (2 : Int))), (SV.rd ETy.u8 x0.mem), (SV.v (Value.int IntKind.u64 x0.time)), (SV.rd ETy.u8 x0.out), (SV.v (Value.bool x0.halted))]))))))) (Tree.fork (Tree.triv) (Tree.fork (Tree.triv) (Tree.fork (Tree.triv) (Tree.fork (Tree.triv) (Tree.triv)))))) (Tree.fork (Tree.triv) (Tree.fork (Tree.triv) (Tree.triv)))))) (Tree.fork (Tree.triv) (Tree.triv)))))) (Tree.triv)))))) (Tree.fork (Tree.fork (Tree.fork (Tree.triv) (Tree.fork (Tree.fork (Tree.triv) (Tree.fork (Tree.triv) (Tree.fork (Tree.triv) (Tree.fork (Tree.fork (Tree.triv) (Tree.fork (Tree.triv) (Tree.fork (Tree.triv) (Tree.fork (Tree.triv) (Tree.fork (Tree.fork (Tree.triv) (Tree.fork (Tree.triv) (Tree.fork (Tree.triv) (Tree.fork (Tree.triv) (Tree.fork (Tree.triv) (Tree.leaf (SV.agg [(SV.arr IntKind.u32 16 x0.core.regs), (SV.v (Value.int IntKind.u32 x0.core.pc)), (SV.arr IntKind.u32 12 (List.set (List.set (List.set (List.set (List.set x0.core.csr 6 x1.snd) 0 (2 : Int)) 5 x1.fst) 9 (IntKind.wrap IntKind.u32 alarm)) 10 (IntKind.wrap IntKind.u32 (Int.fdiv alarm (4294967296 : Int))))), (SV.rd ETy.u8 x0.mem), (SV.v (Value.int IntKind.u64 x0.time)), (SV.rd ETy.u8 x0.out), (SV.v (Value.bool
 x0.halted))]))))))) (Tree.triv)))))) (Tree.fork (Tree.fork (Tree.triv) (Tree.fork (Tree.triv) (Tree.fork (Tree.triv) (Tree.fork (Tree.fork (Tree.triv) (Tree.fork (Tree.triv) (Tree.fork (Tree.triv) (Tree.fork (Tree.triv) (Tree.fork (Tree.triv) (Tree.leaf (SV.agg [(SV.arr IntKind.u32 16 x0.core.regs), (SV.v (Value.int IntKind.u32 x0.core.pc)), (SV.arr IntKind.u32 12 (List.set (List.set (List.set (List.set (List.set x0.core.csr 6 x1.snd) 0 (2 : Int)) 5 x1.fst) 10 (IntKind.wrap IntKind.u32 (Int.fdiv alarm (4294967296 : Int)))) 9 (IntKind.wrap IntKind.u32 alarm))), (SV.rd ETy.u8 x0.mem), (SV.v (Value.int IntKind.u64 x0.time)), (SV.rd ETy.u8 x0.out), (SV.v (Value.bool x0.halted))]))))))) (Tree.fork (Tree.triv) (Tree.triv)))))) (Tree.triv)))))) (Tree.fork (Tree.triv) (Tree.fork (Tree.fork (Tree.triv) (Tree.fork (Tree.fork (Tree.triv) (Tree.fork (Tree.triv) (Tree.fork (Tree.triv) (Tree.fork (Tree.triv) (Tree.fork (Tree.fork (Tree.triv) (Tree.fork (Tree.triv) (Tree.fork (Tree.triv) (Tree.fork (Tree.triv) (Tree.fork (Tree.triv) (Tree.leaf (SV.agg [(SV.arr IntKind.u32 16 x0.core.regs), (SV.v (Value.int IntKind.u32 x0.core.pc)), (SV.arr IntKind.u32 12 (List.set (List.set (List.set (List.set (List.set x0.core.csr 6 x1.snd) 0 (2 : Int)) 9 (IntKind.wrap IntKind.u32 alarm)) 5 x1.fst) 10 (IntKind.wrap IntKind.u32 (Int.fdiv alarm (4294967296 : Int))))), (SV.rd ETy.u8 x0.mem), (SV.v (Value.int IntKind.u64 x0.time)), (SV.rd ETy.u8 x0.out), (SV.v (Value.bool x0.halted))]))))))) (Tree.triv))))))
 (Tree.fork (Tree.triv) (Tree.fork (Tree.triv) (Tree.fork (Tree.fork (Tree.triv) (Tree.fork (Tree.fork (Tree.triv) (Tree.fork (Tree.triv) (Tree.fork (Tree.triv) (Tree.fork (Tree.triv) (Tree.fork (Tree.triv) (Tree.leaf (SV.agg [(SV.arr IntKind.u32 16 x0.core.regs), (SV.v (Value.int IntKind.u32 x0.core.pc)), (SV.arr IntKind.u32 12 (List.set (List.set (List.set (List.set (List.set x0.core.csr 6 x1.snd) 0 (2 : Int)) 9 (IntKind.wrap IntKind.u32 alarm)) 10 (IntKind.wrap IntKind.u32 (Int.fdiv alarm (4294967296 : Int)))) 5 x1.fst)), (SV.rd ETy.u8 x0.mem), (SV.v (Value.int IntKind.u64 x0.time)), (SV.rd ETy.u8 x0.out), (SV.v (Value.bool x0.halted))]))))))) (Tree.fork (Tree.triv) (Tree.fork (Tree.triv) (Tree.fork (Tree.triv) (Tree.triv)))))) (Tree.triv)))))) (Tree.fork (Tree.fork (Tree.triv) (Tree.fork (Tree.fork (Tree.triv) (Tree.fork (Tree.triv) (Tree.fork (Tree.triv) (Tree.fork (Tree.fork (Tree.triv) (Tree.fork (Tree.triv) (Tree.fork (Tree.triv) (Tree.fork (Tree.triv) (Tree.fork (Tree.triv) (Tree.leaf (SV.agg [(SV.arr IntKind.u32 16 x0.core.regs), (SV.v (Value.int IntKind.u32 x0.core.pc)), (SV.arr IntKind.u32 12 (List.set (List.set (List.set (List.set (List.set x0.core.csr 6 x1.snd) 0 (2 : Int)) 10 (IntKind.wrap IntKind.u32 (Int.fdiv alarm (4294967296 : Int)))) 5 x1.fst) 9 (IntKind.wrap IntKind.u32 alarm))), (SV.rd ETy.u8 x0.mem), (SV.v (Value.int IntKind.u64 x0.time)), (SV.rd ETy.u8 x0.out), (SV.v (Value.bool x0.halted))]))))))) (Tree.fork (Tree.triv) (Tree.triv)))))) (Tree.fork
 (Tree.triv) (Tree.fork (Tree.fork (Tree.triv) (Tree.fork (Tree.fork (Tree.triv) (Tree.fork (Tree.triv) (Tree.fork (Tree.triv) (Tree.fork (Tree.triv) (Tree.fork (Tree.triv) (Tree.leaf (SV.agg [(SV.arr IntKind.u32 16 x0.core.regs), (SV.v (Value.int IntKind.u32 x0.core.pc)), (SV.arr IntKind.u32 12 (List.set (List.set (List.set (List.set (List.set x0.core.csr 6 x1.snd) 0 (2 : Int)) 10 (IntKind.wrap IntKind.u32 (Int.fdiv alarm (4294967296 : Int)))) 9 (IntKind.wrap IntKind.u32 alarm)) 5 x1.fst)), (SV.rd ETy.u8 x0.mem), (SV.v (Value.int IntKind.u64 x0.time)), (SV.rd ETy.u8 x0.out), (SV.v (Value.bool x0.halted))]))))))) (Tree.fork (Tree.triv) (Tree.fork (Tree.triv) (Tree.fork (Tree.triv) (Tree.triv)))))) (Tree.fork (Tree.triv) (Tree.triv)))))) (Tree.triv)))))) (Tree.fork (Tree.fork (Tree.fork (Tree.triv) (Tree.fork (Tree.triv) (Tree.fork (Tree.triv) (Tree.fork (Tree.fork (Tree.triv) (Tree.fork (Tree.triv) (Tree.fork (Tree.triv) (Tree.fork (Tree.triv) (Tree.fork (Tree.fork (Tree.triv) (Tree.fork (Tree.triv) (Tree.fork (Tree.triv) (Tree.fork (Tree.triv) (Tree.fork (Tree.triv) (Tree.leaf (SV.agg [(SV.arr IntKind.u32 16 x0.core.regs), (SV.v (Value.int IntKind.u32 x0.core.pc)), (SV.arr IntKind.u32 12 (List.set (List.set (List.set (List.set (List.set x0.core.csr 6 x1.snd) 5 x1.fst) 0 (2 : Int)) 9 (IntKind.wrap IntKind.u32 alarm)) 10 (IntKind.wrap IntKind.u32 (Int.fdiv alarm (4294967296 : Int))))), (SV.rd ETy.u8 x0.mem), (SV.v (Value.int IntKind.u64 x0.time)), (SV.rd ETy.u8 x0.out), (SV.v
 (Value.bool x0.halted))]))))))) (Tree.triv)))))) (Tree.fork (Tree.fork (Tree.triv) (Tree.fork (Tree.triv) (Tree.fork (Tree.triv) (Tree.fork (Tree.fork (Tree.triv) (Tree.fork (Tree.triv) (Tree.fork (Tree.triv) (Tree.fork (Tree.triv) (Tree.fork (Tree.triv) (Tree.leaf (SV.agg [(SV.arr IntKind.u32 16 x0.core.regs), (SV.v (Value.int IntKind.u32 x0.core.pc)), (SV.arr IntKind.u32 12 (List.set (List.set (List.set (List.set (List.set x0.core.csr 6 x1.snd) 5 x1.fst) 0 (2 : Int)) 10 (IntKind.wrap IntKind.u32 (Int.fdiv alarm (4294967296 : Int)))) 9 (IntKind.wrap IntKind.u32 alarm))), (SV.rd ETy.u8 x0.mem), (SV.v (Value.int IntKind.u64 x0.time)), (SV.rd ETy.u8 x0.out), (SV.v (Value.bool x0.halted))]))))))) (Tree.fork (Tree.triv) (Tree.triv)))))) (Tree.triv)))))) (Tree.fork (Tree.triv) (Tree.fork (Tree.triv) (Tree.fork (Tree.fork (Tree.fork (Tree.triv) (Tree.fork (Tree.triv) (Tree.fork (Tree.triv) (Tree.fork (Tree.triv) (Tree.fork (Tree.fork (Tree.triv) (Tree.fork (Tree.triv) (Tree.fork (Tree.triv) (Tree.fork (Tree.triv) (Tree.fork (Tree.triv) (Tree.leaf (SV.agg [(SV.arr IntKind.u32 16 x0.core.regs), (SV.v (Value.int IntKind.u32 x0.core.pc)), (SV.arr IntKind.u32 12 (List.set (List.set (List.set (List.set (List.set x0.core.csr 6 x1.snd) 5 x1.fst) 9 (IntKind.wrap IntKind.u32 alarm)) 0 (2 : Int)) 10 (IntKind.wrap IntKind.u32 (Int.fdiv alarm (4294967296 : Int))))), (SV.rd ETy.u8 x0.mem), (SV.v (Value.int IntKind.u64 x0.time)), (SV.rd ETy.u8 x0.out), (SV.v (Value.bool x0.halted))])))))))
 (Tree.triv)))))) (Tree.fork (Tree.triv) (Tree.fork (Tree.triv) (Tree.fork (Tree.triv) (Tree.fork (Tree.fork (Tree.fork (Tree.triv) (Tree.fork (Tree.triv) (Tree.fork (Tree.triv) (Tree.fork (Tree.triv) (Tree.fork (Tree.triv) (Tree.leaf (SV.agg [(SV.arr IntKind.u32 16 x0.core.regs), (SV.v (Value.int IntKind.u32 x0.core.pc)), (SV.arr IntKind.u32 12 (List.set (List.set (List.set (List.set (List.set x0.core.csr 6 x1.snd) 5 x1.fst) 9 (IntKind.wrap IntKind.u32 alarm)) 10 (IntKind.wrap IntKind.u32 (Int.fdiv alarm (4294967296 : Int)))) 0 (2 : Int))), (SV.rd ETy.u8 x0.mem), (SV.v (Value.int IntKind.u64 x0.time)), (SV.rd ETy.u8 x0.out), (SV.v (Value.bool x0.halted))]))))))) (Tree.fork (Tree.triv) (Tree.fork (Tree.triv) (Tree.fork (Tree.triv) (Tree.fork (Tree.triv) (Tree.triv)))))) (Tree.triv)))))) (Tree.fork (Tree.fork (Tree.fork (Tree.triv) (Tree.fork (Tree.triv) (Tree.fork (Tree.triv) (Tree.fork (Tree.fork (Tree.triv) (Tree.fork (Tree.triv) (Tree.fork (Tree.triv) (Tree.fork (Tree.triv) (Tree.fork (Tree.triv) (Tree.leaf (SV.agg [(SV.arr IntKind.u32 16 x0.core.regs), (SV.v (Value.int IntKind.u32 x0.core.pc)), (SV.arr IntKind.u32 12 (List.set (List.set (List.set (List.set (List.set x0.core.csr 6 x1.snd) 5 x1.fst) 10 (IntKind.wrap IntKind.u32 (Int.fdiv alarm (4294967296 : Int)))) 0 (2 : Int)) 9 (IntKind.wrap IntKind.u32 alarm))), (SV.rd ETy.u8 x0.mem), (SV.v (Value.int IntKind.u64 x0.time)), (SV.rd ETy.u8 x0.out), (SV.v (Value.bool x0.halted))]))))))) (Tree.fork (Tree.triv) (Tree.triv))))))
 (Tree.fork (Tree.triv) (Tree.fork (Tree.triv) (Tree.fork (Tree.fork (Tree.fork (Tree.triv) (Tree.fork (Tree.triv) (Tree.fork (Tree.triv) (Tree.fork (Tree.triv) (Tree.fork (Tree.triv) (Tree.leaf (SV.agg [(SV.arr IntKind.u32 16 x0.core.regs), (SV.v (Value.int IntKind.u32 x0.core.pc)), (SV.arr IntKind.u32 12 (List.set (List.set (List.set (List.set (List.set x0.core.csr 6 x1.snd) 5 x1.fst) 10 (IntKind.wrap IntKind.u32 (Int.fdiv alarm (4294967296 : Int)))) 9 (IntKind.wrap IntKind.u32 alarm)) 0 (2 : Int))), (SV.rd ETy.u8 x0.mem), (SV.v (Value.int IntKind.u64 x0.time)), (SV.rd ETy.u8 x0.out), (SV.v (Value.bool x0.halted))]))))))) (Tree.fork (Tree.triv) (Tree.fork (Tree.triv) (Tree.fork (Tree.triv) (Tree.fork (Tree.triv) (Tree.triv)))))) (Tree.fork (Tree.triv) (Tree.triv)))))) (Tree.triv)))))) (Tree.fork (Tree.triv) (Tree.fork (Tree.fork (Tree.fork (Tree.triv) (Tree.fork (Tree.fork (Tree.triv) (Tree.fork (Tree.triv) (Tree.fork (Tree.triv) (Tree.fork (Tree.triv) (Tree.fork (Tree.fork (Tree.triv) (Tree.fork (Tree.triv) (Tree.fork (Tree.triv) (Tree.fork (Tree.triv) (Tree.fork (Tree.triv) (Tree.leaf (SV.agg [(SV.arr IntKind.u32 16 x0.core.regs), (SV.v (Value.int IntKind.u32 x0.core.pc)), (SV.arr IntKind.u32 12 (List.set (List.set (List.set (List.set (List.set x0.core.csr 6 x1.snd) 9 (IntKind.wrap IntKind.u32 alarm)) 0 (2 : Int)) 5 x1.fst) 10 (IntKind.wrap IntKind.u32 (Int.fdiv alarm (4294967296 : Int))))), (SV.rd ETy.u8 x0.mem), (SV.v (Value.int IntKind.u64 x0.time)), (SV.rd ETy.u8
 x0.out), (SV.v (Value.bool x0.halted))]))))))) (Tree.triv)))))) (Tree.fork (Tree.triv) (Tree.fork (Tree.triv) (Tree.fork (Tree.fork (Tree.triv) (Tree.fork (Tree.fork (Tree.triv) (Tree.fork (Tree.triv) (Tree.fork (Tree.triv) (Tree.fork (Tree.triv) (Tree.fork (Tree.triv) (Tree.leaf (SV.agg [(SV.arr IntKind.u32 16 x0.core.regs), (SV.v (Value.int IntKind.u32 x0.core.pc)), (SV.arr IntKind.u32 12 (List.set (List.set (List.set (List.set (List.set x0.core.csr 6 x1.snd) 9 (IntKind.wrap IntKind.u32 alarm)) 0 (2 : Int)) 10 (IntKind.wrap IntKind.u32 (Int.fdiv alarm (4294967296 : Int)))) 5 x1.fst)), (SV.rd ETy.u8 x0.mem), (SV.v (Value.int IntKind.u64 x0.time)), (SV.rd ETy.u8 x0.out), (SV.v (Value.bool x0.halted))]))))))) (Tree.fork (Tree.triv) (Tree.fork (Tree.triv) (Tree.fork (Tree.triv) (Tree.triv)))))) (Tree.triv)))))) (Tree.fork (Tree.fork (Tree.fork (Tree.triv) (Tree.fork (Tree.triv) (Tree.fork (Tree.triv) (Tree.fork (Tree.triv) (Tree.fork (Tree.fork (Tree.triv) (Tree.fork (Tree.triv) (Tree.fork (Tree.triv) (Tree.fork (Tree.triv) (Tree.fork (Tree.triv) (Tree.leaf (SV.agg [(SV.arr IntKind.u32 16 x0.core.regs), (SV.v (Value.int IntKind.u32 x0.core.pc)), (SV.arr IntKind.u32 12 (List.set (List.set (List.set (List.set (List.set x0.core.csr 6 x1.snd) 9 (IntKind.wrap IntKind.u32 alarm)) 5 x1.fst) 0 (2 : Int)) 10 (IntKind.wrap IntKind.u32 (Int.fdiv alarm (4294967296 : Int))))), (SV.rd ETy.u8 x0.mem), (SV.v (Value.int IntKind.u64 x0.time)), (SV.rd ETy.u8 x0.out), (SV.v (Value.bool
 x0.halted))]))))))) (Tree.triv)))))) (Tree.fork (Tree.triv) (Tree.fork (Tree.triv) (Tree.fork (Tree.triv) (Tree.fork (Tree.fork (Tree.fork (Tree.triv) (Tree.fork (Tree.triv) (Tree.fork (Tree.triv) (Tree.fork (Tree.triv) (Tree.fork (Tree.triv) (Tree.leaf (SV.agg [(SV.arr IntKind.u32 16 x0.core.regs), (SV.v (Value.int IntKind.u32 x0.core.pc)), (SV.arr IntKind.u32 12 (List.set (List.set (List.set (List.set (List.set x0.core.csr 6 x1.snd) 9 (IntKind.wrap IntKind.u32 alarm)) 5 x1.fst) 10 (IntKind.wrap IntKind.u32 (Int.fdiv alarm (4294967296 : Int)))) 0 (2 : Int))), (SV.rd ETy.u8 x0.mem), (SV.v (Value.int IntKind.u64 x0.time)), (SV.rd ETy.u8 x0.out), (SV.v (Value.bool x0.halted))]))))))) (Tree.fork (Tree.triv) (Tree.fork (Tree.triv) (Tree.fork (Tree.triv) (Tree.fork (Tree.triv) (Tree.triv)))))) (Tree.triv)))))) (Tree.fork (Tree.triv) (Tree.fork (Tree.triv) (Tree.fork (Tree.fork (Tree.fork (Tree.triv) (Tree.fork (Tree.fork (Tree.triv) (Tree.fork (Tree.triv) (Tree.fork (Tree.triv) (Tree.fork (Tree.triv) (Tree.fork (Tree.triv) (Tree.leaf (SV.agg [(SV.arr IntKind.u32 16 x0.core.regs), (SV.v (Value.int IntKind.u32 x0.core.pc)), (SV.arr IntKind.u32 12 (List.set (List.set (List.set (List.set (List.set x0.core.csr 6 x1.snd) 9 (IntKind.wrap IntKind.u32 alarm)) 10 (IntKind.wrap IntKind.u32 (Int.fdiv alarm (4294967296 : Int)))) 0 (2 : Int)) 5 x1.fst)), (SV.rd ETy.u8 x0.mem), (SV.v (Value.int IntKind.u64 x0.time)), (SV.rd ETy.u8 x0.out), (SV.v (Value.bool x0.halted))]))))))) (Tree.fork
 (Tree.triv) (Tree.fork (Tree.triv) (Tree.fork (Tree.triv) (Tree.triv)))))) (Tree.fork (Tree.fork (Tree.fork (Tree.triv) (Tree.fork (Tree.triv) (Tree.fork (Tree.triv) (Tree.fork (Tree.triv) (Tree.fork (Tree.triv) (Tree.leaf (SV.agg [(SV.arr IntKind.u32 16 x0.core.regs), (SV.v (Value.int IntKind.u32 x0.core.pc)), (SV.arr IntKind.u32 12 (List.set (List.set (List.set (List.set (List.set x0.core.csr 6 x1.snd) 9 (IntKind.wrap IntKind.u32 alarm)) 10 (IntKind.wrap IntKind.u32 (Int.fdiv alarm (4294967296 : Int)))) 5 x1.fst) 0 (2 : Int))), (SV.rd ETy.u8 x0.mem), (SV.v (Value.int IntKind.u64 x0.time)), (SV.rd ETy.u8 x0.out), (SV.v (Value.bool x0.halted))]))))))) (Tree.fork (Tree.triv) (Tree.fork (Tree.triv) (Tree.fork (Tree.triv) (Tree.fork (Tree.triv) (Tree.triv)))))) (Tree.fork (Tree.triv) (Tree.fork (Tree.triv) (Tree.fork (Tree.triv) (Tree.triv)))))) (Tree.triv)))))) (Tree.fork (Tree.fork (Tree.fork (Tree.triv) (Tree.fork (Tree.fork (Tree.triv) (Tree.fork (Tree.triv) (Tree.fork (Tree.triv) (Tree.fork (Tree.fork (Tree.triv) (Tree.fork (Tree.triv) (Tree.fork (Tree.triv) (Tree.fork (Tree.triv) (Tree.fork (Tree.triv) (Tree.leaf (SV.agg [(SV.arr IntKind.u32 16 x0.core.regs), (SV.v (Value.int IntKind.u32 x0.core.pc)), (SV.arr IntKind.u32 12 (List.set (List.set (List.set (List.set (List.set x0.core.csr 6 x1.snd) 10 (IntKind.wrap IntKind.u32 (Int.fdiv alarm (4294967296 : Int)))) 0 (2 : Int)) 5 x1.fst) 9 (IntKind.wrap IntKind.u32 alarm))), (SV.rd ETy.u8 x0.mem), (SV.v (Value.int IntKind.u64
 x0.time)), (SV.rd ETy.u8 x0.out), (SV.v (Value.bool x0.halted))]))))))) (Tree.fork (Tree.triv) (Tree.triv)))))) (Tree.fork (Tree.triv) (Tree.fork (Tree.fork (Tree.triv) (Tree.fork (Tree.fork (Tree.triv) (Tree.fork (Tree.triv) (Tree.fork (Tree.triv) (Tree.fork (Tree.triv) (Tree.fork (Tree.triv) (Tree.leaf (SV.agg [(SV.arr IntKind.u32 16 x0.core.regs), (SV.v (Value.int IntKind.u32 x0.core.pc)), (SV.arr IntKind.u32 12 (List.set (List.set (List.set (List.set (List.set x0.core.csr 6 x1.snd) 10 (IntKind.wrap IntKind.u32 (Int.fdiv alarm (4294967296 : Int)))) 0 (2 : Int)) 9 (IntKind.wrap IntKind.u32 alarm)) 5 x1.fst)), (SV.rd ETy.u8 x0.mem), (SV.v (Value.int IntKind.u64 x0.time)), (SV.rd ETy.u8 x0.out), (SV.v (Value.bool x0.halted))]))))))) (Tree.fork (Tree.triv) (Tree.fork (Tree.triv) (Tree.fork (Tree.triv) (Tree.triv)))))) (Tree.fork (Tree.triv) (Tree.triv)))))) (Tree.fork (Tree.fork (Tree.fork (Tree.triv) (Tree.fork (Tree.triv) (Tree.fork (Tree.triv) (Tree.fork (Tree.fork (Tree.triv) (Tree.fork (Tree.triv) (Tree.fork (Tree.triv) (Tree.fork (Tree.triv) (Tree.fork (Tree.triv) (Tree.leaf (SV.agg [(SV.arr IntKind.u32 16 x0.core.regs), (SV.v (Value.int IntKind.u32 x0.core.pc)), (SV.arr IntKind.u32 12 (List.set (List.set (List.set (List.set (List.set x0.core.csr 6 x1.snd) 10 (IntKind.wrap IntKind.u32 (Int.fdiv alarm (4294967296 : Int)))) 5 x1.fst) 0 (2 : Int)) 9 (IntKind.wrap IntKind.u32 alarm))), (SV.rd ETy.u8 x0.mem), (SV.v (Value.int IntKind.u64 x0.time)), (SV.rd ETy.u8 x0.out), (SV.v
 (Value.bool x0.halted))]))))))) (Tree.fork (Tree.triv) (Tree.triv)))))) (Tree.fork (Tree.triv) (Tree.fork (Tree.triv) (Tree.fork (Tree.fork (Tree.fork (Tree.triv) (Tree.fork (Tree.triv) (Tree.fork (Tree.triv) (Tree.fork (Tree.triv) (Tree.fork (Tree.triv) (Tree.leaf (SV.agg [(SV.arr IntKind.u32 16 x0.core.regs), (SV.v (Value.int IntKind.u32 x0.core.pc)), (SV.arr IntKind.u32 12 (List.set (List.set (List.set (List.set (List.set x0.core.csr 6 x1.snd) 10 (IntKind.wrap IntKind.u32 (Int.fdiv alarm (4294967296 : Int)))) 5 x1.fst) 9 (IntKind.wrap IntKind.u32 alarm)) 0 (2 : Int))), (SV.rd ETy.u8 x0.mem), (SV.v (Value.int IntKind.u64 x0.time)), (SV.rd ETy.u8 x0.out), (SV.v (Value.bool x0.halted))]))))))) (Tree.fork (Tree.triv) (Tree.fork (Tree.triv) (Tree.fork (Tree.triv) (Tree.fork (Tree.triv) (Tree.triv)))))) (Tree.fork (Tree.triv) (Tree.triv)))))) (Tree.fork (Tree.triv) (Tree.fork (Tree.fork (Tree.fork (Tree.triv) (Tree.fork (Tree.fork (Tree.triv) (Tree.fork (Tree.triv) (Tree.fork (Tree.triv) (Tree.fork (Tree.triv) (Tree.fork (Tree.triv) (Tree.leaf (SV.agg [(SV.arr IntKind.u32 16 x0.core.regs), (SV.v (Value.int IntKind.u32 x0.core.pc)), (SV.arr IntKind.u32 12 (List.set (List.set (List.set (List.set (List.set x0.core.csr 6 x1.snd) 10 (IntKind.wrap IntKind.u32 (Int.fdiv alarm (4294967296 : Int)))) 9 (IntKind.wrap IntKind.u32 alarm)) 0 (2 : Int)) 5 x1.fst)), (SV.rd ETy.u8 x0.mem), (SV.v (Value.int IntKind.u64 x0.time)), (SV.rd ETy.u8 x0.out), (SV.v (Value.bool x0.halted))])))))))
 (Tree.fork (Tree.triv) (Tree.fork (Tree.triv) (Tree.fork (Tree.triv) (Tree.triv)))))) (Tree.fork (Tree.fork (Tree.fork (Tree.triv) (Tree.fork (Tree.triv) (Tree.fork (Tree.triv) (Tree.fork (Tree.triv) (Tree.fork (Tree.triv) (Tree.leaf (SV.agg [(SV.arr IntKind.u32 16 x0.core.regs), (SV.v (Value.int IntKind.u32 x0.core.pc)), (SV.arr IntKind.u32 12 (List.set (List.set (List.set (List.set (List.set x0.core.csr 6 x1.snd) 10 (IntKind.wrap IntKind.u32 (Int.fdiv alarm (4294967296 : Int)))) 9 (IntKind.wrap IntKind.u32 alarm)) 5 x1.fst) 0 (2 : Int))), (SV.rd ETy.u8 x0.mem), (SV.v (Value.int IntKind.u64 x0.time)), (SV.rd ETy.u8 x0.out), (SV.v (Value.bool x0.halted))]))))))) (Tree.fork (Tree.triv) (Tree.fork (Tree.triv) (Tree.fork (Tree.triv) (Tree.fork (Tree.triv) (Tree.triv)))))) (Tree.fork (Tree.triv) (Tree.fork (Tree.triv) (Tree.fork (Tree.triv) (Tree.triv)))))) (Tree.fork (Tree.triv) (Tree.triv)))))) (Tree.triv)))))) (Tree.fork (Tree.fork (Tree.fork (Tree.triv) (Tree.fork (Tree.fork (Tree.triv) (Tree.fork (Tree.triv) (Tree.fork (Tree.fork (Tree.triv) (Tree.fork (Tree.triv) (Tree.fork (Tree.triv) (Tree.fork (Tree.triv) (Tree.fork (Tree.fork (Tree.triv) (Tree.fork (Tree.triv) (Tree.fork (Tree.triv) (Tree.fork (Tree.triv) (Tree.fork (Tree.triv) (Tree.leaf (SV.agg [(SV.arr IntKind.u32 16 x0.core.regs), (SV.v (Value.int IntKind.u32 x0.core.pc)), (SV.arr IntKind.u32 12 (List.set (List.set (List.set (List.set (List.set x0.core.csr 9 (IntKind.wrap IntKind.u32 alarm)) 0 (2 : Int)) 5 x1.fst) 6
 x1.snd) 10 (IntKind.wrap IntKind.u32 (Int.fdiv alarm (4294967296 : Int))))), (SV.rd ETy.u8 x0.mem), (SV.v (Value.int IntKind.u64 x0.time)), (SV.rd ETy.u8 x0.out), (SV.v (Value.bool x0.halted))]))))))) (Tree.triv)))))) (Tree.fork (Tree.triv) (Tree.fork (Tree.fork (Tree.triv) (Tree.fork (Tree.triv) (Tree.fork (Tree.fork (Tree.triv) (Tree.fork (Tree.triv) (Tree.fork (Tree.triv) (Tree.fork (Tree.triv) (Tree.fork (Tree.triv) (Tree.leaf (SV.agg [(SV.arr IntKind.u32 16 x0.core.regs), (SV.v (Value.int IntKind.u32 x0.core.pc)), (SV.arr IntKind.u32 12 (List.set (List.set (List.set (List.set (List.set x0.core.csr 9 (IntKind.wrap IntKind.u32 alarm)) 0 (2 : Int)) 5 x1.fst) 10 (IntKind.wrap IntKind.u32 (Int.fdiv alarm (4294967296 : Int)))) 6 x1.snd)), (SV.rd ETy.u8 x0.mem), (SV.v (Value.int IntKind.u64 x0.time)), (SV.rd ETy.u8 x0.out), (SV.v (Value.bool x0.halted))]))))))) (Tree.fork (Tree.triv) (Tree.fork (Tree.triv) (Tree.triv)))))) (Tree.triv)))))) (Tree.fork (Tree.fork (Tree.triv) (Tree.fork (Tree.fork (Tree.triv) (Tree.fork (Tree.triv) (Tree.fork (Tree.triv) (Tree.fork (Tree.triv) (Tree.fork (Tree.fork (Tree.triv) (Tree.fork (Tree.triv) (Tree.fork (Tree.triv) (Tree.fork (Tree.triv) (Tree.fork (Tree.triv) (Tree.leaf (SV.agg [(SV.arr IntKind.u32 16 x0.core.regs), (SV.v (Value.int IntKind.u32 x0.core.pc)), (SV.arr IntKind.u32 12 (List.set (List.set (List.set (List.set (List.set x0.core.csr 9 (IntKind.wrap IntKind.u32 alarm)) 0 (2 : Int)) 6 x1.snd) 5 x1.fst) 10 (IntKind.wrap IntKind.u32
 (Int.fdiv alarm (4294967296 : Int))))), (SV.rd ETy.u8 x0.mem), (SV.v (Value.int IntKind.u64 x0.time)), (SV.rd ETy.u8 x0.out), (SV.v (Value.bool x0.halted))]))))))) (Tree.triv)))))) (Tree.fork (Tree.triv) (Tree.fork (Tree.triv) (Tree.fork (Tree.fork (Tree.triv) (Tree.fork (Tree.fork (Tree.triv) (Tree.fork (Tree.triv) (Tree.fork (Tree.triv) (Tree.fork (Tree.triv) (Tree.fork (Tree.triv) (Tree.leaf (SV.agg [(SV.arr IntKind.u32 16 x0.core.regs), (SV.v (Value.int IntKind.u32 x0.core.pc)), (SV.arr IntKind.u32 12 (List.set (List.set (List.set (List.set (List.set x0.core.csr 9 (IntKind.wrap IntKind.u32 alarm)) 0 (2 : Int)) 6 x1.snd) 10 (IntKind.wrap IntKind.u32 (Int.fdiv alarm (4294967296 : Int)))) 5 x1.fst)), (SV.rd ETy.u8 x0.mem), (SV.v (Value.int IntKind.u64 x0.time)), (SV.rd ETy.u8 x0.out), (SV.v (Value.bool x0.halted))]))))))) (Tree.fork (Tree.triv) (Tree.fork (Tree.triv) (Tree.fork (Tree.triv) (Tree.triv)))))) (Tree.triv)))))) (Tree.fork (Tree.triv) (Tree.fork (Tree.fork (Tree.triv) (Tree.fork (Tree.fork (Tree.triv) (Tree.fork (Tree.triv) (Tree.fork (Tree.fork (Tree.triv) (Tree.fork (Tree.triv) (Tree.fork (Tree.triv) (Tree.fork (Tree.triv) (Tree.fork (Tree.triv) (Tree.leaf (SV.agg [(SV.arr IntKind.u32 16 x0.core.regs), (SV.v (Value.int IntKind.u32 x0.core.pc)), (SV.arr IntKind.u32 12 (List.set (List.set (List.set (List.set (List.set x0.core.csr 9 (IntKind.wrap IntKind.u32 alarm)) 0 (2 : Int)) 10 (IntKind.wrap IntKind.u32 (Int.fdiv alarm (4294967296 : Int)))) 5 x1.fst) 6 x1.snd)),
 (SV.rd ETy.u8 x0.mem), (SV.v (Value.int IntKind.u64 x0.time)), (SV.rd ETy.u8 x0.out), (SV.v (Value.bool x0.halted))]))))))) (Tree.fork (Tree.triv) (Tree.fork (Tree.triv) (Tree.triv)))))) (Tree.fork (Tree.fork (Tree.triv) (Tree.fork (Tree.fork (Tree.triv) (Tree.fork (Tree.triv) (Tree.fork (Tree.triv) (Tree.fork (Tree.triv) (Tree.fork (Tree.triv) (Tree.leaf (SV.agg [(SV.arr IntKind.u32 16 x0.core.regs), (SV.v (Value.int IntKind.u32 x0.core.pc)), (SV.arr IntKind.u32 12 (List.set (List.set (List.set (List.set (List.set x0.core.csr 9 (IntKind.wrap IntKind.u32 alarm)) 0 (2 : Int)) 10 (IntKind.wrap IntKind.u32 (Int.fdiv alarm (4294967296 : Int)))) 6 x1.snd) 5 x1.fst)), (SV.rd ETy.u8 x0.mem), (SV.v (Value.int IntKind.u64 x0.time)), (SV.rd ETy.u8 x0.out), (SV.v (Value.bool x0.halted))]))))))) (Tree.fork (Tree.triv) (Tree.fork (Tree.triv) (Tree.fork (Tree.triv) (Tree.triv)))))) (Tree.fork (Tree.triv) (Tree.fork (Tree.triv) (Tree.triv)))))) (Tree.triv)))))) (Tree.fork (Tree.fork (Tree.fork (Tree.triv) (Tree.fork (Tree.triv) (Tree.fork (Tree.fork (Tree.triv) (Tree.fork (Tree.triv) (Tree.fork (Tree.triv) (Tree.fork (Tree.triv) (Tree.fork (Tree.fork (Tree.triv) (Tree.fork (Tree.triv) (Tree.fork (Tree.triv) (Tree.fork (Tree.triv) (Tree.fork (Tree.triv) (Tree.leaf (SV.agg [(SV.arr IntKind.u32 16 x0.core.regs), (SV.v (Value.int IntKind.u32 x0.core.pc)), (SV.arr IntKind.u32 12 (List.set (List.set (List.set (List.set (List.set x0.core.csr 9 (IntKind.wrap IntKind.u32 alarm)) 5 x1.fst) 0 (2 :
 Int)) 6 x1.snd) 10 (IntKind.wrap IntKind.u32 (Int.fdiv alarm (4294967296 : Int))))), (SV.rd ETy.u8 x0.mem), (SV.v (Value.int IntKind.u64 x0.time)), (SV.rd ETy.u8 x0.out), (SV.v (Value.bool x0.halted))]))))))) (Tree.triv)))))) (Tree.fork (Tree.triv) (Tree.fork (Tree.fork (Tree.triv) (Tree.fork (Tree.triv) (Tree.fork (Tree.fork (Tree.triv) (Tree.fork (Tree.triv) (Tree.fork (Tree.triv) (Tree.fork (Tree.triv) (Tree.fork (Tree.triv) (Tree.leaf (SV.agg [(SV.arr IntKind.u32 16 x0.core.regs), (SV.v (Value.int IntKind.u32 x0.core.pc)), (SV.arr IntKind.u32 12 (List.set (List.set (List.set (List.set (List.set x0.core.csr 9 (IntKind.wrap IntKind.u32 alarm)) 5 x1.fst) 0 (2 : Int)) 10 (IntKind.wrap IntKind.u32 (Int.fdiv alarm (4294967296 : Int)))) 6 x1.snd)), (SV.rd ETy.u8 x0.mem), (SV.v (Value.int IntKind.u64 x0.time)), (SV.rd ETy.u8 x0.out), (SV.v (Value.bool x0.halted))]))))))) (Tree.fork (Tree.triv) (Tree.fork (Tree.triv) (Tree.triv)))))) (Tree.triv)))))) (Tree.fork (Tree.triv) (Tree.fork (Tree.fork (Tree.fork (Tree.triv) (Tree.fork (Tree.triv) (Tree.fork (Tree.triv) (Tree.fork (Tree.triv) (Tree.fork (Tree.fork (Tree.triv) (Tree.fork (Tree.triv) (Tree.fork (Tree.triv) (Tree.fork (Tree.triv) (Tree.fork (Tree.triv) (Tree.leaf (SV.agg [(SV.arr IntKind.u32 16 x0.core.regs), (SV.v (Value.int IntKind.u32 x0.core.pc)), (SV.arr IntKind.u32 12 (List.set (List.set (List.set (List.set (List.set x0.core.csr 9 (IntKind.wrap IntKind.u32 alarm)) 5 x1.fst) 6 x1.snd) 0 (2 : Int)) 10 (IntKind.wrap
 IntKind.u32 (Int.fdiv alarm (4294967296 : Int))))), (SV.rd ETy.u8 x0.mem), (SV.v (Value.int IntKind.u64 x0.time)), (SV.rd ETy.u8 x0.out), (SV.v (Value.bool x0.halted))]))))))) (Tree.triv)))))) (Tree.fork (Tree.triv) (Tree.fork (Tree.triv) (Tree.fork (Tree.triv) (Tree.fork (Tree.fork (Tree.fork (Tree.triv) (Tree.fork (Tree.triv) (Tree.fork (Tree.triv) (Tree.fork (Tree.triv) (Tree.fork (Tree.triv) (Tree.leaf (SV.agg [(SV.arr IntKind.u32 16 x0.core.regs), (SV.v (Value.int IntKind.u32 x0.core.pc)), (SV.arr IntKind.u32 12 (List.set (List.set (List.set (List.set (List.set x0.core.csr 9 (IntKind.wrap IntKind.u32 alarm)) 5 x1.fst) 6 x1.snd) 10 (IntKind.wrap IntKind.u32 (Int.fdiv alarm (4294967296 : Int)))) 0 (2 : Int))), (SV.rd ETy.u8 x0.mem), (SV.v (Value.int IntKind.u64 x0.time)), (SV.rd ETy.u8 x0.out), (SV.v (Value.bool x0.halted))]))))))) (Tree.fork (Tree.triv) (Tree.fork (Tree.triv) (Tree.fork (Tree.triv) (Tree.fork (Tree.triv) (Tree.triv)))))) (Tree.triv)))))) (Tree.fork (Tree.triv) (Tree.fork (Tree.fork (Tree.fork (Tree.triv) (Tree.fork (Tree.triv) (Tree.fork (Tree.fork (Tree.triv) (Tree.fork (Tree.triv) (Tree.fork (Tree.triv) (Tree.fork (Tree.triv) (Tree.fork (Tree.triv) (Tree.leaf (SV.agg [(SV.arr IntKind.u32 16 x0.core.regs), (SV.v (Value.int IntKind.u32 x0.core.pc)), (SV.arr IntKind.u32 12 (List.set (List.set (List.set (List.set (List.set x0.core.csr 9 (IntKind.wrap IntKind.u32 alarm)) 5 x1.fst) 10 (IntKind.wrap IntKind.u32 (Int.fdiv alarm (4294967296 : Int)))) 0 (2 : Int))
 6 x1.snd)), (SV.rd ETy.u8 x0.mem), (SV.v (Value.int IntKind.u64 x0.time)), (SV.rd ETy.u8 x0.out), (SV.v (Value.bool x0.halted))]))))))) (Tree.fork (Tree.triv) (Tree.fork (Tree.triv) (Tree.triv)))))) (Tree.fork (Tree.triv) (Tree.fork (Tree.fork (Tree.fork (Tree.triv) (Tree.fork (Tree.triv) (Tree.fork (Tree.triv) (Tree.fork (Tree.triv) (Tree.fork (Tree.triv) (Tree.leaf (SV.agg [(SV.arr IntKind.u32 16 x0.core.regs), (SV.v (Value.int IntKind.u32 x0.core.pc)), (SV.arr IntKind.u32 12 (List.set (List.set (List.set (List.set (List.set x0.core.csr 9 (IntKind.wrap IntKind.u32 alarm)) 5 x1.fst) 10 (IntKind.wrap IntKind.u32 (Int.fdiv alarm (4294967296 : Int)))) 6 x1.snd) 0 (2 : Int))), (SV.rd ETy.u8 x0.mem), (SV.v (Value.int IntKind.u64 x0.time)), (SV.rd ETy.u8 x0.out), (SV.v (Value.bool x0.halted))]))))))) (Tree.fork (Tree.triv) (Tree.fork (Tree.triv) (Tree.fork (Tree.triv) (Tree.fork (Tree.triv) (Tree.triv)))))) (Tree.fork (Tree.triv) (Tree.fork (Tree.triv) (Tree.triv)))))) (Tree.triv)))))) (Tree.fork (Tree.fork (Tree.fork (Tree.triv) (Tree.fork (Tree.fork (Tree.triv) (Tree.fork (Tree.triv) (Tree.fork (Tree.triv) (Tree.fork (Tree.triv) (Tree.fork (Tree.fork (Tree.triv) (Tree.fork (Tree.triv) (Tree.fork (Tree.triv) (Tree.fork (Tree.triv) (Tree.fork (Tree.triv) (Tree.leaf (SV.agg [(SV.arr IntKind.u32 16 x0.core.regs), (SV.v (Value.int IntKind.u32 x0.core.pc)), (SV.arr IntKind.u32 12 (List.set (List.set (List.set (List.set (List.set x0.core.csr 9 (IntKind.wrap IntKind.u32 alarm)) 6 x1.snd)
 0 (2 : Int)) 5 x1.fst) 10 (IntKind.wrap IntKind.u32 (Int.fdiv alarm (4294967296 : Int))))), (SV.rd ETy.u8 x0.mem), (SV.v (Value.int IntKind.u64 x0.time)), (SV.rd ETy.u8 x0.out), (SV.v (Value.bool x0.halted))]))))))) (Tree.triv)))))) (Tree.fork (Tree.triv) (Tree.fork (Tree.triv) (Tree.fork (Tree.fork (Tree.triv) (Tree.fork (Tree.fork (Tree.triv) (Tree.fork (Tree.triv) (Tree.fork (Tree.triv) (Tree.fork (Tree.triv) (Tree.fork (Tree.triv) (Tree.leaf (SV.agg [(SV.arr IntKind.u32 16 x0.core.regs), (SV.v (Value.int IntKind.u32 x0.core.pc)), (SV.arr IntKind.u32 12 (List.set (List.set (List.set (List.set (List.set x0.core.csr 9 (IntKind.wrap IntKind.u32 alarm)) 6 x1.snd) 0 (2 : Int)) 10 (IntKind.wrap IntKind.u32 (Int.fdiv alarm (4294967296 : Int)))) 5 x1.fst)), (SV.rd ETy.u8 x0.mem), (SV.v (Value.int IntKind.u64 x0.time)), (SV.rd ETy.u8 x0.out), (SV.v (Value.bool x0.halted))]))))))) (Tree.fork (Tree.triv) (Tree.fork (Tree.triv) (Tree.fork (Tree.triv) (Tree.triv)))))) (Tree.triv)))))) (Tree.fork (Tree.fork (Tree.fork (Tree.triv) (Tree.fork (Tree.triv) (Tree.fork (Tree.triv) (Tree.fork (Tree.triv) (Tree.fork (Tree.fork (Tree.triv) (Tree.fork (Tree.triv) (Tree.fork (Tree.triv) (Tree.fork (Tree.triv) (Tree.fork (Tree.triv) (Tree.leaf (SV.agg [(SV.arr IntKind.u32 16 x0.core.regs), (SV.v (Value.int IntKind.u32 x0.core.pc)), (SV.arr IntKind.u32 12 (List.set (List.set (List.set (List.set (List.set x0.core.csr 9 (IntKind.wrap IntKind.u32 alarm)) 6 x1.snd) 5 x1.fst) 0 (2 : Int)) 10 (IntKind.wrap
 IntKind.u32 (Int.fdiv alarm (4294967296 : Int))))), (SV.rd ETy.u8 x0.mem), (SV.v (Value.int IntKind.u64 x0.time)), (SV.rd ETy.u8 x0.out), (SV.v (Value.bool x0.halted))]))))))) (Tree.triv)))))) (Tree.fork (Tree.triv) (Tree.fork (Tree.triv) (Tree.fork (Tree.triv) (Tree.fork (Tree.fork (Tree.fork (Tree.triv) (Tree.fork (Tree.triv) (Tree.fork (Tree.triv) (Tree.fork (Tree.triv) (Tree.fork (Tree.triv) (Tree.leaf (SV.agg [(SV.arr IntKind.u32 16 x0.core.regs), (SV.v (Value.int IntKind.u32 x0.core.pc)), (SV.arr IntKind.u32 12 (List.set (List.set (List.set (List.set (List.set x0.core.csr 9 (IntKind.wrap IntKind.u32 alarm)) 6 x1.snd) 5 x1.fst) 10 (IntKind.wrap IntKind.u32 (Int.fdiv alarm (4294967296 : Int)))) 0 (2 : Int))), (SV.rd ETy.u8 x0.mem), (SV.v (Value.int IntKind.u64 x0.time)), (SV.rd ETy.u8 x0.out), (SV.v (Value.bool x0.halted))]))))))) (Tree.fork (Tree.triv) (Tree.fork (Tree.triv) (Tree.fork (Tree.triv) (Tree.fork (Tree.triv) (Tree.triv)))))) (Tree.triv)))))) (Tree.fork (Tree.triv) (Tree.fork (Tree.triv) (Tree.fork (Tree.fork (Tree.fork (Tree.triv) (Tree.fork (Tree.fork (Tree.triv) (Tree.fork (Tree.triv) (Tree.fork (Tree.triv) (Tree.fork (Tree.triv) (Tree.fork (Tree.triv) (Tree.leaf (SV.agg [(SV.arr IntKind.u32 16 x0.core.regs), (SV.v (Value.int IntKind.u32 x0.core.pc)), (SV.arr IntKind.u32 12 (List.set (List.set (List.set (List.set (List.set x0.core.csr 9 (IntKind.wrap IntKind.u32 alarm)) 6 x1.snd) 10 (IntKind.wrap IntKind.u32 (Int.fdiv alarm (4294967296 : Int)))) 0 (2 : Int))
 5 x1.fst)), (SV.rd ETy.u8 x0.mem), (SV.v (Value.int IntKind.u64 x0.time)), (SV.rd ETy.u8 x0.out), (SV.v (Value.bool x0.halted))]))))))) (Tree.fork (Tree.triv) (Tree.fork (Tree.triv) (Tree.fork (Tree.triv) (Tree.triv)))))) (Tree.fork (Tree.fork (Tree.fork (Tree.triv) (Tree.fork (Tree.triv) (Tree.fork (Tree.triv) (Tree.fork (Tree.triv) (Tree.fork (Tree.triv) (Tree.leaf (SV.agg [(SV.arr IntKind.u32 16 x0.core.regs), (SV.v (Value.int IntKind.u32 x0.core.pc)), (SV.arr IntKind.u32 12 (List.set (List.set (List.set (List.set (List.set x0.core.csr 9 (IntKind.wrap IntKind.u32 alarm)) 6 x1.snd) 10 (IntKind.wrap IntKind.u32 (Int.fdiv alarm (4294967296 : Int)))) 5 x1.fst) 0 (2 : Int))), (SV.rd ETy.u8 x0.mem), (SV.v (Value.int IntKind.u64 x0.time)), (SV.rd ETy.u8 x0.out), (SV.v (Value.bool x0.halted))]))))))) (Tree.fork (Tree.triv) (Tree.fork (Tree.triv) (Tree.fork (Tree.triv) (Tree.fork (Tree.triv) (Tree.triv)))))) (Tree.fork (Tree.triv) (Tree.fork (Tree.triv) (Tree.fork (Tree.triv) (Tree.triv)))))) (Tree.triv)))))) (Tree.fork (Tree.triv) (Tree.fork (Tree.fork (Tree.fork (Tree.triv) (Tree.fork (Tree.fork (Tree.triv) (Tree.fork (Tree.triv) (Tree.fork (Tree.fork (Tree.triv) (Tree.fork (Tree.triv) (Tree.fork (Tree.triv) (Tree.fork (Tree.triv) (Tree.fork (Tree.triv) (Tree.leaf (SV.agg [(SV.arr IntKind.u32 16 x0.core.regs), (SV.v (Value.int IntKind.u32 x0.core.pc)), (SV.arr IntKind.u32 12 (List.set (List.set (List.set (List.set (List.set x0.core.csr 9 (IntKind.wrap IntKind.u32 alarm)) 10
 (IntKind.wrap IntKind.u32 (Int.fdiv alarm (4294967296 : Int)))) 0 (2 : Int)) 5 x1.fst) 6 x1.snd)), (SV.rd ETy.u8 x0.mem), (SV.v (Value.int IntKind.u64 x0.time)), (SV.rd ETy.u8 x0.out), (SV.v (Value.bool x0.halted))]))))))) (Tree.fork (Tree.triv) (Tree.fork (Tree.triv) (Tree.triv)))))) (Tree.fork (Tree.fork (Tree.triv) (Tree.fork (Tree.fork (Tree.triv) (Tree.fork (Tree.triv) (Tree.fork (Tree.triv) (Tree.fork (Tree.triv) (Tree.fork (Tree.triv) (Tree.leaf (SV.agg [(SV.arr IntKind.u32 16 x0.core.regs), (SV.v (Value.int IntKind.u32 x0.core.pc)), (SV.arr IntKind.u32 12 (List.set (List.set (List.set (List.set (List.set x0.core.csr 9 (IntKind.wrap IntKind.u32 alarm)) 10 (IntKind.wrap IntKind.u32 (Int.fdiv alarm (4294967296 : Int)))) 0 (2 : Int)) 6 x1.snd) 5 x1.fst)), (SV.rd ETy.u8 x0.mem), (SV.v (Value.int IntKind.u64 x0.time)), (SV.rd ETy.u8 x0.out), (SV.v (Value.bool x0.halted))]))))))) (Tree.fork (Tree.triv) (Tree.fork (Tree.triv) (Tree.fork (Tree.triv) (Tree.triv)))))) (Tree.fork (Tree.triv) (Tree.fork (Tree.triv) (Tree.triv)))))) (Tree.fork (Tree.fork (Tree.fork (Tree.triv) (Tree.fork (Tree.triv) (Tree.fork (Tree.fork (Tree.triv) (Tree.fork (Tree.triv) (Tree.fork (Tree.triv) (Tree.fork (Tree.triv) (Tree.fork (Tree.triv) (Tree.leaf (SV.agg [(SV.arr IntKind.u32 16 x0.core.regs), (SV.v (Value.int IntKind.u32 x0.core.pc)), (SV.arr IntKind.u32 12 (List.set (List.set (List.set (List.set (List.set x0.core.csr 9 (IntKind.wrap IntKind.u32 alarm)) 10 (IntKind.wrap IntKind.u32 (Int.fdiv
 alarm (4294967296 : Int)))) 5 x1.fst) 0 (2 : Int)) 6 x1.snd)), (SV.rd ETy.u8 x0.mem), (SV.v (Value.int IntKind.u64 x0.time)), (SV.rd ETy.u8 x0.out), (SV.v (Value.bool x0.halted))]))))))) (Tree.fork (Tree.triv) (Tree.fork (Tree.triv) (Tree.triv)))))) (Tree.fork (Tree.triv) (Tree.fork (Tree.fork (Tree.fork (Tree.triv) (Tree.fork (Tree.triv) (Tree.fork (Tree.triv) (Tree.fork (Tree.triv) (Tree.fork (Tree.triv) (Tree.leaf (SV.agg [(SV.arr IntKind.u32 16 x0.core.regs), (SV.v (Value.int IntKind.u32 x0.core.pc)), (SV.arr IntKind.u32 12 (List.set (List.set (List.set (List.set (List.set x0.core.csr 9 (IntKind.wrap IntKind.u32 alarm)) 10 (IntKind.wrap IntKind.u32 (Int.fdiv alarm (4294967296 : Int)))) 5 x1.fst) 6 x1.snd) 0 (2 : Int))), (SV.rd ETy.u8 x0.mem), (SV.v (Value.int IntKind.u64 x0.time)), (SV.rd ETy.u8 x0.out), (SV.v (Value.bool x0.halted))]))))))) (Tree.fork (Tree.triv) (Tree.fork (Tree.triv) (Tree.fork (Tree.triv) (Tree.fork (Tree.triv) (Tree.triv)))))) (Tree.fork (Tree.triv) (Tree.fork (Tree.triv) (Tree.triv)))))) (Tree.fork (Tree.fork (Tree.fork (Tree.triv) (Tree.fork (Tree.fork (Tree.triv) (Tree.fork (Tree.triv) (Tree.fork (Tree.triv) (Tree.fork (Tree.triv) (Tree.fork (Tree.triv) (Tree.leaf (SV.agg [(SV.arr IntKind.u32 16 x0.core.regs), (SV.v (Value.int IntKind.u32 x0.core.pc)), (SV.arr IntKind.u32 12 (List.set (List.set (List.set (List.set (List.set x0.core.csr 9 (IntKind.wrap IntKind.u32 alarm)) 10 (IntKind.wrap IntKind.u32 (Int.fdiv alarm (4294967296 : Int)))) 6 x1.snd) 0
 (2 : Int)) 5 x1.fst)), (SV.rd ETy.u8 x0.mem), (SV.v (Value.int IntKind.u64 x0.time)), (SV.rd ETy.u8 x0.out), (SV.v (Value.bool x0.halted))]))))))) (Tree.fork (Tree.triv) (Tree.fork (Tree.triv) (Tree.fork (Tree.triv) (Tree.triv)))))) (Tree.fork (Tree.fork (Tree.fork (Tree.triv) (Tree.fork (Tree.triv) (Tree.fork (Tree.triv) (Tree.fork (Tree.triv) (Tree.fork (Tree.triv) (Tree.leaf (SV.agg [(SV.arr IntKind.u32 16 x0.core.regs), (SV.v (Value.int IntKind.u32 x0.core.pc)), (SV.arr IntKind.u32 12 (List.set (List.set (List.set (List.set (List.set x0.core.csr 9 (IntKind.wrap IntKind.u32 alarm)) 10 (IntKind.wrap IntKind.u32 (Int.fdiv alarm (4294967296 : Int)))) 6 x1.snd) 5 x1.fst) 0 (2 : Int))), (SV.rd ETy.u8 x0.mem), (SV.v (Value.int IntKind.u64 x0.time)), (SV.rd ETy.u8 x0.out), (SV.v (Value.bool x0.halted))]))))))) (Tree.fork (Tree.triv) (Tree.fork (Tree.triv) (Tree.fork (Tree.triv) (Tree.fork (Tree.triv) (Tree.triv)))))) (Tree.fork (Tree.triv) (Tree.fork (Tree.triv) (Tree.fork (Tree.triv) (Tree.triv)))))) (Tree.fork (Tree.triv) (Tree.fork (Tree.triv) (Tree.triv)))))) (Tree.triv)))))) (Tree.fork (Tree.fork (Tree.fork (Tree.triv) (Tree.fork (Tree.fork (Tree.triv) (Tree.fork (Tree.triv) (Tree.fork (Tree.fork (Tree.triv) (Tree.fork (Tree.triv) (Tree.fork (Tree.triv) (Tree.fork (Tree.fork (Tree.triv) (Tree.fork (Tree.triv) (Tree.fork (Tree.triv) (Tree.fork (Tree.triv) (Tree.fork (Tree.triv) (Tree.leaf (SV.agg [(SV.arr IntKind.u32 16 x0.core.regs), (SV.v (Value.int IntKind.u32 x0.core.pc)),
 (SV.arr IntKind.u32 12 (List.set (List.set (List.set (List.set (List.set x0.core.csr 10 (IntKind.wrap IntKind.u32 (Int.fdiv alarm (4294967296 : Int)))) 0 (2 : Int)) 5 x1.fst) 6 x1.snd) 9 (IntKind.wrap IntKind.u32 alarm))), (SV.rd ETy.u8 x0.mem), (SV.v (Value.int IntKind.u64 x0.time)), (SV.rd ETy.u8 x0.out), (SV.v (Value.bool x0.halted))]))))))) (Tree.fork (Tree.triv) (Tree.triv)))))) (Tree.fork (Tree.fork (Tree.triv) (Tree.fork (Tree.triv) (Tree.fork (Tree.fork (Tree.triv) (Tree.fork (Tree.triv) (Tree.fork (Tree.triv) (Tree.fork (Tree.triv) (Tree.fork (Tree.triv) (Tree.leaf (SV.agg [(SV.arr IntKind.u32 16 x0.core.regs), (SV.v (Value.int IntKind.u32 x0.core.pc)), (SV.arr IntKind.u32 12 (List.set (List.set (List.set (List.set (List.set x0.core.csr 10 (IntKind.wrap IntKind.u32 (Int.fdiv alarm (4294967296 : Int)))) 0 (2 : Int)) 5 x1.fst) 9 (IntKind.wrap IntKind.u32 alarm)) 6 x1.snd)), (SV.rd ETy.u8 x0.mem), (SV.v (Value.int IntKind.u64 x0.time)), (SV.rd ETy.u8 x0.out), (SV.v (Value.bool x0.halted))]))))))) (Tree.fork (Tree.triv) (Tree.fork (Tree.triv) (Tree.triv)))))) (Tree.fork (Tree.triv) (Tree.triv)))))) (Tree.fork (Tree.fork (Tree.triv) (Tree.fork (Tree.fork (Tree.triv) (Tree.fork (Tree.triv) (Tree.fork (Tree.triv) (Tree.fork (Tree.fork (Tree.triv) (Tree.fork (Tree.triv) (Tree.fork (Tree.triv) (Tree.fork (Tree.triv) (Tree.fork (Tree.triv) (Tree.leaf (SV.agg [(SV.arr IntKind.u32 16 x0.core.regs), (SV.v (Value.int IntKind.u32 x0.core.pc)), (SV.arr IntKind.u32 12 (List.set
 (List.set (List.set (List.set (List.set x0.core.csr 10 (IntKind.wrap IntKind.u32 (Int.fdiv alarm (4294967296 : Int)))) 0 (2 : Int)) 6 x1.snd) 5 x1.fst) 9 (IntKind.wrap IntKind.u32 alarm))), (SV.rd ETy.u8 x0.mem), (SV.v (Value.int IntKind.u64 x0.time)), (SV.rd ETy.u8 x0.out), (SV.v (Value.bool x0.halted))]))))))) (Tree.fork (Tree.triv) (Tree.triv)))))) (Tree.fork (Tree.triv) (Tree.fork (Tree.fork (Tree.triv) (Tree.fork (Tree.fork (Tree.triv) (Tree.fork (Tree.triv) (Tree.fork (Tree.triv) (Tree.fork (Tree.triv) (Tree.fork (Tree.triv) (Tree.leaf (SV.agg [(SV.arr IntKind.u32 16 x0.core.regs), (SV.v (Value.int IntKind.u32 x0.core.pc)), (SV.arr IntKind.u32 12 (List.set (List.set (List.set (List.set (List.set x0.core.csr 10 (IntKind.wrap IntKind.u32 (Int.fdiv alarm (4294967296 : Int)))) 0 (2 : Int)) 6 x1.snd) 9 (IntKind.wrap IntKind.u32 alarm)) 5 x1.fst)), (SV.rd ETy.u8 x0.mem), (SV.v (Value.int IntKind.u64 x0.time)), (SV.rd ETy.u8 x0.out), (SV.v (Value.bool x0.halted))]))))))) (Tree.fork (Tree.triv) (Tree.fork (Tree.triv) (Tree.fork (Tree.triv) (Tree.triv)))))) (Tree.fork (Tree.triv) (Tree.triv)))))) (Tree.fork (Tree.fork (Tree.triv) (Tree.fork (Tree.fork (Tree.triv) (Tree.fork (Tree.triv) (Tree.fork (Tree.fork (Tree.triv) (Tree.fork (Tree.triv) (Tree.fork (Tree.triv) (Tree.fork (Tree.triv) (Tree.fork (Tree.triv) (Tree.leaf (SV.agg [(SV.arr IntKind.u32 16 x0.core.regs), (SV.v (Value.int IntKind.u32 x0.core.pc)), (SV.arr IntKind.u32 12 (List.set (List.set (List.set (List.set (List.set
 x0.core.csr 10 (IntKind.wrap IntKind.u32 (Int.fdiv alarm (4294967296 : Int)))) 0 (2 : Int)) 9 (IntKind.wrap IntKind.u32 alarm)) 5 x1.fst) 6 x1.snd)), (SV.rd ETy.u8 x0.mem), (SV.v (Value.int IntKind.u64 x0.time)), (SV.rd ETy.u8 x0.out), (SV.v (Value.bool x0.halted))]))))))) (Tree.fork (Tree.triv) (Tree.fork (Tree.triv) (Tree.triv)))))) (Tree.fork (Tree.fork (Tree.triv) (Tree.fork (Tree.fork (Tree.triv) (Tree.fork (Tree.triv) (Tree.fork (Tree.triv) (Tree.fork (Tree.triv) (Tree.fork (Tree.triv) (Tree.leaf (SV.agg [(SV.arr IntKind.u32 16 x0.core.regs), (SV.v (Value.int IntKind.u32 x0.core.pc)), (SV.arr IntKind.u32 12 (List.set (List.set (List.set (List.set (List.set x0.core.csr 10 (IntKind.wrap IntKind.u32 (Int.fdiv alarm (4294967296 : Int)))) 0 (2 : Int)) 9 (IntKind.wrap IntKind.u32 alarm)) 6 x1.snd) 5 x1.fst)), (SV.rd ETy.u8 x0.mem), (SV.v (Value.int IntKind.u64 x0.time)), (SV.rd ETy.u8 x0.out), (SV.v (Value.bool x0.halted))]))))))) (Tree.fork (Tree.triv) (Tree.fork (Tree.triv) (Tree.fork (Tree.triv) (Tree.triv)))))) (Tree.fork (Tree.triv) (Tree.fork (Tree.triv) (Tree.triv)))))) (Tree.fork (Tree.triv) (Tree.triv)))))) (Tree.fork (Tree.fork (Tree.fork (Tree.triv) (Tree.fork (Tree.triv) (Tree.fork (Tree.fork (Tree.triv) (Tree.fork (Tree.triv) (Tree.fork (Tree.triv) (Tree.fork (Tree.fork (Tree.triv) (Tree.fork (Tree.triv) (Tree.fork (Tree.triv) (Tree.fork (Tree.triv) (Tree.fork (Tree.triv) (Tree.leaf (SV.agg [(SV.arr IntKind.u32 16 x0.core.regs), (SV.v (Value.int IntKind.u32
 x0.core.pc)), (SV.arr IntKind.u32 12 (List.set (List.set (List.set (List.set (List.set x0.core.csr 10 (IntKind.wrap IntKind.u32 (Int.fdiv alarm (4294967296 : Int)))) 5 x1.fst) 0 (2 : Int)) 6 x1.snd) 9 (IntKind.wrap IntKind.u32 alarm))), (SV.rd ETy.u8 x0.mem), (SV.v (Value.int IntKind.u64 x0.time)), (SV.rd ETy.u8 x0.out), (SV.v (Value.bool x0.halted))]))))))) (Tree.fork (Tree.triv) (Tree.triv)))))) (Tree.fork (Tree.fork (Tree.triv) (Tree.fork (Tree.triv) (Tree.fork (Tree.fork (Tree.triv) (Tree.fork (Tree.triv) (Tree.fork (Tree.triv) (Tree.fork (Tree.triv) (Tree.fork (Tree.triv) (Tree.leaf (SV.agg [(SV.arr IntKind.u32 16 x0.core.regs), (SV.v (Value.int IntKind.u32 x0.core.pc)), (SV.arr IntKind.u32 12 (List.set (List.set (List.set (List.set (List.set x0.core.csr 10 (IntKind.wrap IntKind.u32 (Int.fdiv alarm (4294967296 : Int)))) 5 x1.fst) 0 (2 : Int)) 9 (IntKind.wrap IntKind.u32 alarm)) 6 x1.snd)), (SV.rd ETy.u8 x0.mem), (SV.v (Value.int IntKind.u64 x0.time)), (SV.rd ETy.u8 x0.out), (SV.v (Value.bool x0.halted))]))))))) (Tree.fork (Tree.triv) (Tree.fork (Tree.triv) (Tree.triv)))))) (Tree.fork (Tree.triv) (Tree.triv)))))) (Tree.fork (Tree.triv) (Tree.fork (Tree.fork (Tree.fork (Tree.triv) (Tree.fork (Tree.triv) (Tree.fork (Tree.triv) (Tree.fork (Tree.fork (Tree.triv) (Tree.fork (Tree.triv) (Tree.fork (Tree.triv) (Tree.fork (Tree.triv) (Tree.fork (Tree.triv) (Tree.leaf (SV.agg [(SV.arr IntKind.u32 16 x0.core.regs), (SV.v (Value.int IntKind.u32 x0.core.pc)), (SV.arr IntKind.u32 12
 (List.set (List.set (List.set (List.set (List.set x0.core.csr 10 (IntKind.wrap IntKind.u32 (Int.fdiv alarm (4294967296 : Int)))) 5 x1.fst) 6 x1.snd) 0 (2 : Int)) 9 (IntKind.wrap IntKind.u32 alarm))), (SV.rd ETy.u8 x0.mem), (SV.v (Value.int IntKind.u64 x0.time)), (SV.rd ETy.u8 x0.out), (SV.v (Value.bool x0.halted))]))))))) (Tree.fork (Tree.triv) (Tree.triv)))))) (Tree.fork (Tree.triv) (Tree.fork (Tree.triv) (Tree.fork (Tree.fork (Tree.fork (Tree.triv) (Tree.fork (Tree.triv) (Tree.fork (Tree.triv) (Tree.fork (Tree.triv) (Tree.fork (Tree.triv) (Tree.leaf (SV.agg [(SV.arr IntKind.u32 16 x0.core.regs), (SV.v (Value.int IntKind.u32 x0.core.pc)), (SV.arr IntKind.u32 12 (List.set (List.set (List.set (List.set (List.set x0.core.csr 10 (IntKind.wrap IntKind.u32 (Int.fdiv alarm (4294967296 : Int)))) 5 x1.fst) 6 x1.snd) 9 (IntKind.wrap IntKind.u32 alarm)) 0 (2 : Int))), (SV.rd ETy.u8 x0.mem), (SV.v (Value.int IntKind.u64 x0.time)), (SV.rd ETy.u8 x0.out), (SV.v (Value.bool x0.halted))]))))))) (Tree.fork (Tree.triv) (Tree.fork (Tree.triv) (Tree.fork (Tree.triv) (Tree.fork (Tree.triv) (Tree.triv)))))) (Tree.fork (Tree.triv) (Tree.triv)))))) (Tree.fork (Tree.fork (Tree.fork (Tree.triv) (Tree.fork (Tree.triv) (Tree.fork (Tree.fork (Tree.triv) (Tree.fork (Tree.triv) (Tree.fork (Tree.triv) (Tree.fork (Tree.triv) (Tree.fork (Tree.triv) (Tree.leaf (SV.agg [(SV.arr IntKind.u32 16 x0.core.regs), (SV.v (Value.int IntKind.u32 x0.core.pc)), (SV.arr IntKind.u32 12 (List.set (List.set (List.set (List.set
 (List.set x0.core.csr 10 (IntKind.wrap IntKind.u32 (Int.fdiv alarm (4294967296 : Int)))) 5 x1.fst) 9 (IntKind.wrap IntKind.u32 alarm)) 0 (2 : Int)) 6 x1.snd)), (SV.rd ETy.u8 x0.mem), (SV.v (Value.int IntKind.u64 x0.time)), (SV.rd ETy.u8 x0.out), (SV.v (Value.bool x0.halted))]))))))) (Tree.fork (Tree.triv) (Tree.fork (Tree.triv) (Tree.triv)))))) (Tree.fork (Tree.triv) (Tree.fork (Tree.fork (Tree.fork (Tree.triv) (Tree.fork (Tree.triv) (Tree.fork (Tree.triv) (Tree.fork (Tree.triv) (Tree.fork (Tree.triv) (Tree.leaf (SV.agg [(SV.arr IntKind.u32 16 x0.core.regs), (SV.v (Value.int IntKind.u32 x0.core.pc)), (SV.arr IntKind.u32 12 (List.set (List.set (List.set (List.set (List.set x0.core.csr 10 (IntKind.wrap IntKind.u32 (Int.fdiv alarm (4294967296 : Int)))) 5 x1.fst) 9 (IntKind.wrap IntKind.u32 alarm)) 6 x1.snd) 0 (2 : Int))), (SV.rd ETy.u8 x0.mem), (SV.v (Value.int IntKind.u64 x0.time)), (SV.rd ETy.u8 x0.out), (SV.v (Value.bool x0.halted))]))))))) (Tree.fork (Tree.triv) (Tree.fork (Tree.triv) (Tree.fork (Tree.triv) (Tree.fork (Tree.triv) (Tree.triv)))))) (Tree.fork (Tree.triv) (Tree.fork (Tree.triv) (Tree.triv)))))) (Tree.fork (Tree.triv) (Tree.triv)))))) (Tree.fork (Tree.fork (Tree.fork (Tree.triv) (Tree.fork (Tree.fork (Tree.triv) (Tree.fork (Tree.triv) (Tree.fork (Tree.triv) (Tree.fork (Tree.fork (Tree.triv) (Tree.fork (Tree.triv) (Tree.fork (Tree.triv) (Tree.fork (Tree.triv) (Tree.fork (Tree.triv) (Tree.leaf (SV.agg [(SV.arr IntKind.u32 16 x0.core.regs), (SV.v (Value.int
 IntKind.u32 x0.core.pc)), (SV.arr IntKind.u32 12 (List.set (List.set (List.set (List.set (List.set x0.core.csr 10 (IntKind.wrap IntKind.u32 (Int.fdiv alarm (4294967296 : Int)))) 6 x1.snd) 0 (2 : Int)) 5 x1.fst) 9 (IntKind.wrap IntKind.u32 alarm))), (SV.rd ETy.u8 x0.mem), (SV.v (Value.int IntKind.u64 x0.time)), (SV.rd ETy.u8 x0.out), (SV.v (Value.bool x0.halted))]))))))) (Tree.fork (Tree.triv) (Tree.triv)))))) (Tree.fork (Tree.triv) (Tree.fork (Tree.fork (Tree.triv) (Tree.fork (Tree.fork (Tree.triv) (Tree.fork (Tree.triv) (Tree.fork (Tree.triv) (Tree.fork (Tree.triv) (Tree.fork (Tree.triv) (Tree.leaf (SV.agg [(SV.arr IntKind.u32 16 x0.core.regs), (SV.v (Value.int IntKind.u32 x0.core.pc)), (SV.arr IntKind.u32 12 (List.set (List.set (List.set (List.set (List.set x0.core.csr 10 (IntKind.wrap IntKind.u32 (Int.fdiv alarm (4294967296 : Int)))) 6 x1.snd) 0 (2 : Int)) 9 (IntKind.wrap IntKind.u32 alarm)) 5 x1.fst)), (SV.rd ETy.u8 x0.mem), (SV.v (Value.int IntKind.u64 x0.time)), (SV.rd ETy.u8 x0.out), (SV.v (Value.bool x0.halted))]))))))) (Tree.fork (Tree.triv) (Tree.fork (Tree.triv) (Tree.fork (Tree.triv) (Tree.triv)))))) (Tree.fork (Tree.triv) (Tree.triv)))))) (Tree.fork (Tree.fork (Tree.fork (Tree.triv) (Tree.fork (Tree.triv) (Tree.fork (Tree.triv) (Tree.fork (Tree.fork (Tree.triv) (Tree.fork (Tree.triv) (Tree.fork (Tree.triv) (Tree.fork (Tree.triv) (Tree.fork (Tree.triv) (Tree.leaf (SV.agg [(SV.arr IntKind.u32 16 x0.core.regs), (SV.v (Value.int IntKind.u32 x0.core.pc)), (SV.arr
 IntKind.u32 12 (List.set (List.set (List.set (List.set (List.set x0.core.csr 10 (IntKind.wrap IntKind.u32 (Int.fdiv alarm (4294967296 : Int)))) 6 x1.snd) 5 x1.fst) 0 (2 : Int)) 9 (IntKind.wrap IntKind.u32 alarm))), (SV.rd ETy.u8 x0.mem), (SV.v (Value.int IntKind.u64 x0.time)), (SV.rd ETy.u8 x0.out), (SV.v (Value.bool x0.halted))]))))))) (Tree.fork (Tree.triv) (Tree.triv)))))) (Tree.fork (Tree.triv) (Tree.fork (Tree.triv) (Tree.fork (Tree.fork (Tree.fork (Tree.triv) (Tree.fork (Tree.triv) (Tree.fork (Tree.triv) (Tree.fork (Tree.triv) (Tree.fork (Tree.triv) (Tree.leaf (SV.agg [(SV.arr IntKind.u32 16 x0.core.regs), (SV.v (Value.int IntKind.u32 x0.core.pc)), (SV.arr IntKind.u32 12 (List.set (List.set (List.set (List.set (List.set x0.core.csr 10 (IntKind.wrap IntKind.u32 (Int.fdiv alarm (4294967296 : Int)))) 6 x1.snd) 5 x1.fst) 9 (IntKind.wrap IntKind.u32 alarm)) 0 (2 : Int))), (SV.rd ETy.u8 x0.mem), (SV.v (Value.int IntKind.u64 x0.time)), (SV.rd ETy.u8 x0.out), (SV.v (Value.bool x0.halted))]))))))) (Tree.fork (Tree.triv) (Tree.fork (Tree.triv) (Tree.fork (Tree.triv) (Tree.fork (Tree.triv) (Tree.triv)))))) (Tree.fork (Tree.triv) (Tree.triv)))))) (Tree.fork (Tree.triv) (Tree.fork (Tree.fork (Tree.fork (Tree.triv) (Tree.fork (Tree.fork (Tree.triv) (Tree.fork (Tree.triv) (Tree.fork (Tree.triv) (Tree.fork (Tree.triv) (Tree.fork (Tree.triv) (Tree.leaf (SV.agg [(SV.arr IntKind.u32 16 x0.core.regs), (SV.v (Value.int IntKind.u32 x0.core.pc)), (SV.arr IntKind.u32 12 (List.set (List.set
 (List.set (List.set (List.set x0.core.csr 10 (IntKind.wrap IntKind.u32 (Int.fdiv alarm (4294967296 : Int)))) 6 x1.snd) 9 (IntKind.wrap IntKind.u32 alarm)) 0 (2 : Int)) 5 x1.fst)), (SV.rd ETy.u8 x0.mem), (SV.v (Value.int IntKind.u64 x0.time)), (SV.rd ETy.u8 x0.out), (SV.v (Value.bool x0.halted))]))))))) (Tree.fork (Tree.triv) (Tree.fork (Tree.triv) (Tree.fork (Tree.triv) (Tree.triv)))))) (Tree.fork (Tree.fork (Tree.fork (Tree.triv) (Tree.fork (Tree.triv) (Tree.fork (Tree.triv) (Tree.fork (Tree.triv) (Tree.fork (Tree.triv) (Tree.leaf (SV.agg [(SV.arr IntKind.u32 16 x0.core.regs), (SV.v (Value.int IntKind.u32 x0.core.pc)), (SV.arr IntKind.u32 12 (List.set (List.set (List.set (List.set (List.set x0.core.csr 10 (IntKind.wrap IntKind.u32 (Int.fdiv alarm (4294967296 : Int)))) 6 x1.snd) 9 (IntKind.wrap IntKind.u32 alarm)) 5 x1.fst) 0 (2 : Int))), (SV.rd ETy.u8 x0.mem), (SV.v (Value.int IntKind.u64 x0.time)), (SV.rd ETy.u8 x0.out), (SV.v (Value.bool x0.halted))]))))))) (Tree.fork (Tree.triv) (Tree.fork (Tree.triv) (Tree.fork (Tree.triv) (Tree.fork (Tree.triv) (Tree.triv)))))) (Tree.fork (Tree.triv) (Tree.fork (Tree.triv) (Tree.fork (Tree.triv) (Tree.triv)))))) (Tree.fork (Tree.triv) (Tree.triv)))))) (Tree.fork (Tree.fork (Tree.fork (Tree.triv) (Tree.fork (Tree.fork (Tree.triv) (Tree.fork (Tree.triv) (Tree.fork (Tree.fork (Tree.triv) (Tree.fork (Tree.triv) (Tree.fork (Tree.triv) (Tree.fork (Tree.triv) (Tree.fork (Tree.triv) (Tree.leaf (SV.agg [(SV.arr IntKind.u32 16 x0.core.regs), (SV.v
 (Value.int IntKind.u32 x0.core.pc)), (SV.arr IntKind.u32 12 (List.set (List.set (List.set (List.set (List.set x0.core.csr 10 (IntKind.wrap IntKind.u32 (Int.fdiv alarm (4294967296 : Int)))) 9 (IntKind.wrap IntKind.u32 alarm)) 0 (2 : Int)) 5 x1.fst) 6 x1.snd)), (SV.rd ETy.u8 x0.mem), (SV.v (Value.int IntKind.u64 x0.time)), (SV.rd ETy.u8 x0.out), (SV.v (Value.bool x0.halted))]))))))) (Tree.fork (Tree.triv) (Tree.fork (Tree.triv) (Tree.triv)))))) (Tree.fork (Tree.fork (Tree.triv) (Tree.fork (Tree.fork (Tree.triv) (Tree.fork (Tree.triv) (Tree.fork (Tree.triv) (Tree.fork (Tree.triv) (Tree.fork (Tree.triv) (Tree.leaf (SV.agg [(SV.arr IntKind.u32 16 x0.core.regs), (SV.v (Value.int IntKind.u32 x0.core.pc)), (SV.arr IntKind.u32 12 (List.set (List.set (List.set (List.set (List.set x0.core.csr 10 (IntKind.wrap IntKind.u32 (Int.fdiv alarm (4294967296 : Int)))) 9 (IntKind.wrap IntKind.u32 alarm)) 0 (2 : Int)) 6 x1.snd) 5 x1.fst)), (SV.rd ETy.u8 x0.mem), (SV.v (Value.int IntKind.u64 x0.time)), (SV.rd ETy.u8 x0.out), (SV.v (Value.bool x0.halted))]))))))) (Tree.fork (Tree.triv) (Tree.fork (Tree.triv) (Tree.fork (Tree.triv) (Tree.triv)))))) (Tree.fork (Tree.triv) (Tree.fork (Tree.triv) (Tree.triv)))))) (Tree.fork (Tree.fork (Tree.fork (Tree.triv) (Tree.fork (Tree.triv) (Tree.fork (Tree.fork (Tree.triv) (Tree.fork (Tree.triv) (Tree.fork (Tree.triv) (Tree.fork (Tree.triv) (Tree.fork (Tree.triv) (Tree.leaf (SV.agg [(SV.arr IntKind.u32 16 x0.core.regs), (SV.v (Value.int IntKind.u32 x0.core.pc)),
 (SV.arr IntKind.u32 12 (List.set (List.set (List.set (List.set (List.set x0.core.csr 10 (IntKind.wrap IntKind.u32 (Int.fdiv alarm (4294967296 : Int)))) 9 (IntKind.wrap IntKind.u32 alarm)) 5 x1.fst) 0 (2 : Int)) 6 x1.snd)), (SV.rd ETy.u8 x0.mem), (SV.v (Value.int IntKind.u64 x0.time)), (SV.rd ETy.u8 x0.out), (SV.v (Value.bool x0.halted))]))))))) (Tree.fork (Tree.triv) (Tree.fork (Tree.triv) (Tree.triv)))))) (Tree.fork (Tree.triv) (Tree.fork (Tree.fork (Tree.fork (Tree.triv) (Tree.fork (Tree.triv) (Tree.fork (Tree.triv) (Tree.fork (Tree.triv) (Tree.fork (Tree.triv) (Tree.leaf (SV.agg [(SV.arr IntKind.u32 16 x0.core.regs), (SV.v (Value.int IntKind.u32 x0.core.pc)), (SV.arr IntKind.u32 12 (List.set (List.set (List.set (List.set (List.set x0.core.csr 10 (IntKind.wrap IntKind.u32 (Int.fdiv alarm (4294967296 : Int)))) 9 (IntKind.wrap IntKind.u32 alarm)) 5 x1.fst) 6 x1.snd) 0 (2 : Int))), (SV.rd ETy.u8 x0.mem), (SV.v (Value.int IntKind.u64 x0.time)), (SV.rd ETy.u8 x0.out), (SV.v (Value.bool x0.halted))]))))))) (Tree.fork (Tree.triv) (Tree.fork (Tree.triv) (Tree.fork (Tree.triv) (Tree.fork (Tree.triv) (Tree.triv)))))) (Tree.fork (Tree.triv) (Tree.fork (Tree.triv) (Tree.triv)))))) (Tree.fork (Tree.fork (Tree.fork (Tree.triv) (Tree.fork (Tree.fork (Tree.triv) (Tree.fork (Tree.triv) (Tree.fork (Tree.triv) (Tree.fork (Tree.triv) (Tree.fork (Tree.triv) (Tree.leaf (SV.agg [(SV.arr IntKind.u32 16 x0.core.regs), (SV.v (Value.int IntKind.u32 x0.core.pc)), (SV.arr IntKind.u32 12 (List.set
 (List.set (List.set (List.set (List.set x0.core.csr 10 (IntKind.wrap IntKind.u32 (Int.fdiv alarm (4294967296 : Int)))) 9 (IntKind.wrap IntKind.u32 alarm)) 6 x1.snd) 0 (2 : Int)) 5 x1.fst)), (SV.rd ETy.u8 x0.mem), (SV.v (Value.int IntKind.u64 x0.time)), (SV.rd ETy.u8 x0.out), (SV.v (Value.bool x0.halted))]))))))) (Tree.fork (Tree.triv) (Tree.fork (Tree.triv) (Tree.fork (Tree.triv) (Tree.triv)))))) (Tree.fork (Tree.fork (Tree.fork (Tree.triv) (Tree.fork (Tree.triv) (Tree.fork (Tree.triv) (Tree.fork (Tree.triv) (Tree.fork (Tree.triv) (Tree.leaf (SV.agg [(SV.arr IntKind.u32 16 x0.core.regs), (SV.v (Value.int IntKind.u32 x0.core.pc)), (SV.arr IntKind.u32 12 (List.set (List.set (List.set (List.set (List.set x0.core.csr 10 (IntKind.wrap IntKind.u32 (Int.fdiv alarm (4294967296 : Int)))) 9 (IntKind.wrap IntKind.u32 alarm)) 6 x1.snd) 5 x1.fst) 0 (2 : Int))), (SV.rd ETy.u8 x0.mem), (SV.v (Value.int IntKind.u64 x0.time)), (SV.rd ETy.u8 x0.out), (SV.v (Value.bool x0.halted))]))))))) (Tree.fork (Tree.triv) (Tree.fork (Tree.triv) (Tree.fork (Tree.triv) (Tree.fork (Tree.triv) (Tree.triv)))))) (Tree.fork (Tree.triv) (Tree.fork (Tree.triv) (Tree.fork (Tree.triv) (Tree.triv)))))) (Tree.fork (Tree.triv) (Tree.fork (Tree.triv) (Tree.triv)))))) (Tree.fork (Tree.triv) (Tree.triv)))))) (Tree.triv))))))) := by kernel_rfl
section
attribute [local irreducible] evF evFL evFLs
theorem a_shadow_Dispatch (host : PMach) (v : PVcpu) (p : PPart) (alarm : Int) (ok_host : okMach host) (ok_v : okVcpu v) (ok_p : okPart p) (ok_alarm : okI .u64 alarm) : (evF E_shadow_Dispatch 60 32 (encArgs [.mach, .vcpu, .part, .i .u64] (host, v, p, alarm, ()))).ends fun out_ => decO [.mach] out_ = some (K.dispatch host v p alarm) := by
  rw [t_shadow_Dispatch, Tree.ends_holds]
  obtain ⟨a0, a1⟩ := okI_u64 ok_alarm
  have e1 : IntKind.u32.wrap alarm = alarm % 4294967296 := wrap32 _
  have e2 : IntKind.u32.wrap (alarm.fdiv 4294967296) = alarm / 4294967296 := by rw [wrap32, Int.fdiv_eq_ediv_of_nonneg _ (by omega)]; omega
  have key : K.dispatch host v p alarm = { core := { regs := (K.restore host v).core.regs, pc := (K.restore host v).core.pc, csr := K.letC (K.restore host v).core.csr (K.compose p v.core) alarm }, mem := (K.restore host v).mem, time := (K.restore host v).time, out := (K.restore host v).out, halted := (K.restore host v).halted } := rfl
  have hl : (K.restore host v).core.csr.length = 12 := ok_host.core.csr.1
  rw [key]
  clear key
  generalize K.restore host v = h at *
  generalize K.compose p v.core = x at *
  simp only [Tree.holds_loop, Tree.holds_fork, Tree.holds_next, if_true, Tree.holds_cond, Tree.holds_letv, Tree.holds_leaf, Tree.holds_fail, Tree.holds_triv, decO, decA, decTup, decMach, decCore, decTrap, decInstr, decPart, decGuest, decConf, decEvent, decVcpu, decStep, bytesS, boolS, eventsS, intsS, guestsS, vcpusS, rowS, castL, Option.bind_some, Option.map_some, Option.some.injEq, Nat.beq_refl, beq_self_eq_true, Bool.and_self, cond_true, cond_false, eq_self, e1, e2, K.letC]
  obtain ⟨c0, c1, c2, c3, c4, c5, c6, c7, c8, c9, c10, c11, hc⟩ := list12 hl
  rw [hc]
  simp only [List.set_cons_zero, List.set_cons_succ]
  repeat' (first | refine drop_ok ?_ | intro _ | with_reducible apply And.intro)
  all_goals first | trivial | rfl
  
theorem c_shadow_Dispatch : SpecOk EB 32 S_shadow_Dispatch := spec_sig ok_shadow_Dispatch (n := 60) fun ⟨host, v, p, alarm, ⟨⟩⟩ h hok => a_shadow_Dispatch host v p alarm (ok_mach (okSL_head hok)) (ok_vcpu (okSL_head (okSL_tail hok))) (ok_part (okSL_head (okSL_tail (okSL_tail hok)))) (ok_int (okSL_head (okSL_tail (okSL_tail (okSL_tail hok)))))
end

/-! fetch_TimerPending -/

def S_fetch_TimerPending : Spec := sig [.mach] [.b] (fun (m, _) => K.due m)
noncomputable def E_fetch_TimerPending : Env := EB.adds [(59, S_trap_InterruptsEnabled), (61, S_csr_TimerCompare)]

theorem ok_fetch_TimerPending : EnvOk E_fetch_TimerPending := okEB.adds (l := _) ⟨c_trap_InterruptsEnabled, c_csr_TimerCompare, trivial⟩
theorem t_fetch_TimerPending (m : PMach) : evF E_fetch_TimerPending 60 94 (encArgs [.mach] (m, ())) = Tree.letv (okO [AT.b]) (K.ie m.core) fun x0 => (bif x0 then (Tree.letv (okO [(AT.i IntKind.u64)]) (K.cmp m.core.csr) fun x1 => (bif (decide (m.time ≥ x1)) then (Tree.leaf (SV.b true)) else (Tree.leaf (SV.b false)))) else (Tree.leaf (SV.b false))) := by kernel_rfl
section
attribute [local irreducible] evF evFL evFLs
theorem a_fetch_TimerPending (m : PMach) (ok_m : okMach m) : (evF E_fetch_TimerPending 60 94 (encArgs [.mach] (m, ()))).ends fun out_ => decO [.b] out_ = some (K.due m) := by
  rw [t_fetch_TimerPending, Tree.ends_holds]
  simp only [Tree.holds_loop, Tree.holds_fork, Tree.holds_next, if_true, Tree.holds_cond, Tree.holds_letv, Tree.holds_leaf, Tree.holds_fail, decO, decA, decTup, decMach, decCore, decTrap, decInstr, decPart, decGuest, decConf, decEvent, decVcpu, decStep, bytesS, boolS, eventsS, intsS, guestsS, vcpusS, rowS, castL, Option.bind_some, Option.map_some, Option.some.injEq, Nat.beq_refl, beq_self_eq_true, Bool.and_self, cond_true, cond_false, eq_self, beq_iff_eq, beq_eq_false_iff_ne, bne_iff_ne, bne_eq_false_iff_eq, ne_eq, decide_eq_true_eq, decide_eq_false_iff_not, ble_true, ble_false, inRange_iff, inRange_false, K.due]
  repeat' (first | refine drop_ok ?_ | intro _ | with_reducible apply And.intro)
  all_goals simp_all
  
theorem c_fetch_TimerPending : SpecOk EB 94 S_fetch_TimerPending := spec_sig ok_fetch_TimerPending (n := 60) fun ⟨m, ⟨⟩⟩ h hok => a_fetch_TimerPending m (ok_mach (okSL_head hok))
end

/-! step_end -/

def S_step_end : Spec := sig [.mach, .trap] [.mach, .trap] (fun (m, t, _) => K.endS m t)
noncomputable def E_step_end : Env := EB.adds [(117, S_trap_Enter)]

theorem ok_step_end : EnvOk E_step_end := okEB.adds (l := _) ⟨c_trap_Enter, trivial⟩
theorem t_step_end (m : PMach) (t : PTrap) : evF E_step_end 60 95 (encArgs [.mach, .trap] (m, t, ())) = Tree.letv (okO [AT.core]) (K.enter m.core t) fun x0 => (Tree.leaf (SV.tup [(SV.agg [(SV.arr IntKind.u32 16 x0.regs), (SV.v (Value.int IntKind.u32 x0.pc)), (SV.arr IntKind.u32 12 x0.csr), (SV.rd ETy.u8 m.mem), (SV.v (Value.int IntKind.u64 (IntKind.wrap IntKind.u64 (m.time + (1 : Int))))), (SV.rd ETy.u8 m.out), (SV.v (Value.bool m.halted))]), (SV.agg [(SV.v (Value.int IntKind.i64 t.cause)), (SV.v (Value.int IntKind.u32 t.tval))])])) := by kernel_rfl
section
attribute [local irreducible] evF evFL evFLs
theorem a_step_end (m : PMach) (t : PTrap) (ok_m : okMach m) (ok_t : okTrap t) : (evF E_step_end 60 95 (encArgs [.mach, .trap] (m, t, ()))).ends fun out_ => decO [.mach, .trap] out_ = some (K.endS m t) := by
  rw [t_step_end, Tree.ends_holds]
  simp only [Tree.holds_loop, Tree.holds_fork, Tree.holds_next, if_true, Tree.holds_cond, Tree.holds_letv, Tree.holds_leaf, Tree.holds_fail, decO, decA, decTup, decMach, decCore, decTrap, decInstr, decPart, decGuest, decConf, decEvent, decVcpu, decStep, bytesS, boolS, eventsS, intsS, guestsS, vcpusS, rowS, castL, Option.bind_some, Option.map_some, Option.some.injEq, Nat.beq_refl, beq_self_eq_true, Bool.and_self, cond_true, cond_false, eq_self, K.endS, wrap64]
  repeat' (first | refine drop_ok ?_ | intro _ | with_reducible apply And.intro)
  all_goals simp_all
  
theorem c_step_end : SpecOk EB 95 S_step_end := spec_sig ok_step_end (n := 60) fun ⟨m, t, ⟨⟩⟩ h hok => a_step_end m t (ok_mach (okSL_head hok)) (ok_trap (okSL_head (okSL_tail hok)))
end

/-! reloc_Translate -/

def S_reloc_Translate : Spec := sig [.i .u32, .i .u32, .i .u32, .i .u32, .i .i64] [.i .u32, .b] (fun (base, bound, size, a, n, _) => K.reloc base bound size a n) (pre := fun (base, bound, size, a, n, _) => decide (0 ≤ n ∧ n ≤ 1099511627776))
noncomputable def E_reloc_Translate : Env := EB.adds []

theorem ok_reloc_Translate : EnvOk E_reloc_Translate := okEB.adds (l := _) trivial
theorem t_reloc_Translate (base : Int) (bound : Int) (size : Int) (a : Int) (n : Int) : evF E_reloc_Translate 60 190 (encArgs [.i .u32, .i .u32, .i .u32, .i .u32, .i .i64] (base, bound, size, a, n, ())) = bif (decide ((IntKind.wrap IntKind.u64 ((IntKind.wrap IntKind.u64 a) + (IntKind.wrap IntKind.u64 n))) > (IntKind.wrap IntKind.u64 bound))) then (Tree.leaf (SV.tup [(SV.v (Value.int IntKind.u32 (0 : Int))), (SV.b false)])) else (bif (decide ((IntKind.wrap IntKind.u64 ((IntKind.wrap IntKind.u64 base) + (IntKind.wrap IntKind.u64 ((IntKind.wrap IntKind.u64 a) + (IntKind.wrap IntKind.u64 n))))) > (IntKind.wrap IntKind.u64 size))) then (Tree.leaf (SV.tup [(SV.v (Value.int IntKind.u32 (0 : Int))), (SV.b false)])) else (Tree.leaf (SV.tup [(SV.v (Value.int IntKind.u32 (IntKind.wrap IntKind.u32 (base + a)))), (SV.b true)]))) := by kernel_rfl
section
attribute [local irreducible] evF evFL evFLs
theorem a_reloc_Translate (base : Int) (bound : Int) (size : Int) (a : Int) (n : Int) (hpre : 0 ≤ n ∧ n ≤ 1099511627776) (ok_base : okI .u32 base) (ok_bound : okI .u32 bound) (ok_size : okI .u32 size) (ok_a : okI .u32 a) (ok_n : okI .i64 n) : (evF E_reloc_Translate 60 190 (encArgs [.i .u32, .i .u32, .i .u32, .i .u32, .i .i64] (base, bound, size, a, n, ()))).ends fun out_ => decO [.i .u32, .b] out_ = some (K.reloc base bound size a n) := by
  rw [t_reloc_Translate, Tree.ends_holds]
  obtain ⟨a0, a1⟩ := okI_u32 ok_a
  obtain ⟨b0, b1⟩ := okI_u32 ok_base
  obtain ⟨c0, c1⟩ := okI_u32 ok_bound
  obtain ⟨d0, d1⟩ := okI_u32 ok_size
  have e1 : IntKind.u64.wrap a = a := by rw [wrap64]; omega
  have e2 : IntKind.u64.wrap n = n := by rw [wrap64]; omega
  have e3 : IntKind.u64.wrap size = size := by rw [wrap64]; omega
  have e4 : IntKind.u64.wrap (a + n) = a + n := by rw [wrap64]; omega
  have e5 : IntKind.u64.wrap base = base := by rw [wrap64]; omega
  have e6 : IntKind.u64.wrap bound = bound := by rw [wrap64]; omega
  have e7 : IntKind.u64.wrap (base + (a + n)) = base + (a + n) := by rw [wrap64]; omega
  simp only [Tree.holds_loop, Tree.holds_fork, Tree.holds_next, if_true, Tree.holds_cond, Tree.holds_letv, Tree.holds_leaf, Tree.holds_fail, decO, decA, decTup, decMach, decCore, decTrap, decInstr, decPart, decGuest, decConf, decEvent, decVcpu, decStep, bytesS, boolS, eventsS, intsS, guestsS, vcpusS, rowS, castL, Option.bind_some, Option.map_some, Option.some.injEq, Nat.beq_refl, beq_self_eq_true, Bool.and_self, cond_true, cond_false, eq_self, beq_iff_eq, beq_eq_false_iff_ne, bne_iff_ne, bne_eq_false_iff_eq, ne_eq, decide_eq_true_eq, decide_eq_false_iff_not, ble_true, ble_false, inRange_iff, inRange_false, K.reloc, e1, e2, e3, e4, e5, e6, e7]
  repeat' (first | refine drop_ok ?_ | intro _ | with_reducible apply And.intro)
  · rw [if_neg (by omega)]
  · rw [if_neg (by omega)]
  · rw [if_pos (by omega), show IntKind.u32.wrap (base + a) = base + a by rw [wrap32]; omega]
  
theorem c_reloc_Translate : SpecOk EB 190 S_reloc_Translate := spec_sig ok_reloc_Translate (n := 60) fun ⟨base, bound, size, a, n, ⟨⟩⟩ h hok => a_reloc_Translate base bound size a n (of_decide_eq_true h) (ok_int (okSL_head hok)) (ok_int (okSL_head (okSL_tail hok))) (ok_int (okSL_head (okSL_tail (okSL_tail hok)))) (ok_int (okSL_head (okSL_tail (okSL_tail (okSL_tail hok))))) (ok_int (okSL_head (okSL_tail (okSL_tail (okSL_tail (okSL_tail hok))))))
end


end Go.Proofs.YtmbmahgaejcjiaaGreatDoor
