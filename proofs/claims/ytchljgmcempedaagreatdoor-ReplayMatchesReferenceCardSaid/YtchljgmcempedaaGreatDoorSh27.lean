/- Contracts by the types of arguments and results (nothing is claimed here). -/
import Derived.Test.YtchljgmcempedaaGreatDoorSh26
set_option linter.unusedVariables false
set_option linter.unusedSimpArgs false
namespace Go.Proofs.YtchljgmcempedaaGreatDoor
open Go Go.RowKit

/-- an instruction that is carried out -/
structure PStep where
  m : PMach
  i : PInstr
  x : Int
  y : Int
  z : Int
  trap : PTrap
def stepC (s : PStep) : List SV := machC s.m ++ (instrC s.i ++ (svI .u32 s.x :: svI .u32 s.y :: svI .u32 s.z :: trapC s.trap))
def decStep : List SV → Option PStep
  | [a, b, c, d, e, f, g, i1, i2, i3, i4, i5, .v (.int .u32 x), .v (.int .u32 y), .v (.int .u32 z), t1, t2] =>
    (decMach [a, b, c, d, e, f, g]).bind fun m => (decInstr [i1, i2, i3, i4, i5]).bind fun i => (decTrap [t1, t2]).map fun t => ⟨m, i, x, y, z, t⟩
  | _ => none
/-- types of arguments and results -/
inductive AT where
  | i (k : IntKind)
  | b
  | a (k : IntKind) (n : Nat)
  | str | core | mach | trap | instr | part | guest | conf | event | vcpu | mon
  | rd (τ : ETy)
  | pstep
@[reducible] def AT.T : AT → Type
  | .i _ => Int
  | .b => Bool
  | .a _ _ => List Int
  | .str => ByteArray
  | .core => PCore
  | .mach => PMach
  | .trap => PTrap
  | .instr => PInstr
  | .part => PPart
  | .guest => PGuest
  | .conf => PConf
  | .event => PEvent
  | .vcpu => PVcpu
  | .mon => PMon
  | .rd τ => List τ.T
  | .pstep => PStep
def rowS (τ : ETy) : SV → Option (List τ.T)
  | .rd σ l => castL σ τ l
  | .rdx σ l => castL σ τ l
  | .v (.slice none 0 0) => some []
  | _ => none
def encA : (t : AT) → t.T → SV
  | .i k, n => .v (.int k n)
  | .b, q => .v (.bool q)
  | .a k n, l => .agg [.arr k n l]
  | .str, s => .v (.string s)
  | .core, c => .agg (coreC c)
  | .mach, m => .agg (machC m)
  | .trap, t => .agg (trapC t)
  | .instr, i => .agg (instrC i)
  | .part, p => .agg (partC p)
  | .guest, g => .agg (guestC g)
  | .conf, c => .agg (confC c)
  | .event, e => .agg (eventC e)
  | .vcpu, v => .agg (vcpuC v)
  | .mon, m => .agg (monC m)
  | .rd τ, l => .rd τ l
  | .pstep, s => .pp (stepC s) 0 0 1
def decA : (t : AT) → SV → Option t.T
  | .i k, .v (.int k' n) => bif k == k' then some n else none
  | .b, s => boolS s
  | .a k n, .agg [.arr k' n' l] => bif k == k' && Nat.beq n n' then some l else none
  | .str, .v (.string s) => some s
  | .core, .agg cs => decCore cs
  | .mach, .agg cs => decMach cs
  | .trap, .agg cs => decTrap cs
  | .instr, .agg cs => decInstr cs
  | .part, .agg cs => decPart cs
  | .guest, .agg cs => decGuest cs
  | .conf, .agg cs => decConf cs
  | .event, .agg cs => decEvent cs
  | .vcpu, .agg cs => decVcpu cs
  | .mon, .agg cs => decMon cs
  | .rd τ, s => rowS τ s
  | .pstep, .pp cs 0 0 1 => decStep cs
  | _, _ => none
@[reducible] def ArgT : List AT → Type
  | [] => Unit
  | t :: ts => t.T × ArgT ts
@[reducible] def TupT : List AT → Type
  | [] => Unit
  | [t] => t.T
  | t :: ts => t.T × TupT ts
def encArgs : (ts : List AT) → ArgT ts → List SV
  | [], _ => []
  | t :: ts, x => encA t x.1 :: encArgs ts x.2
def decArgs : (ts : List AT) → List SV → Option (ArgT ts)
  | [], [] => some ()
  | t :: ts, s :: ss => (decA t s).bind fun x => (decArgs ts ss).map fun r => (x, r)
  | _, _ => none
def encTup : (ts : List AT) → TupT ts → List SV
  | [], _ => []
  | [t], x => [encA t x]
  | t :: t' :: ts, x => encA t x.1 :: encTup (t' :: ts) x.2
def decTup : (ts : List AT) → List SV → Option (TupT ts)
  | [], [] => some ()
  | [t], [s] => decA t s
  | t :: t' :: ts, s :: ss => (decA t s).bind fun x => (decTup (t' :: ts) ss).map fun r => (x, r)
  | _, _ => none
def encO : (ts : List AT) → TupT ts → SV
  | [t], x => encA t x
  | ts, x => .tup (encTup ts x)
def decO : (ts : List AT) → SV → Option (TupT ts)
  | [t], s => decA t s
  | ts, .tup ss => decTup ts ss
  | _, _ => none
/-- what a result is bound to be -/
def okO (ts : List AT) (x : TupT ts) : Prop := okS (encO ts x)
/-- what an argument is bound to be -/
def okA (t : AT) (x : t.T) : Prop := okS (encA t x)

section rep
variable {h : Hp} {θ : Th}
theorem rowS_rep {τ : ETy} {s : SV} {l : List τ.T} {v : Value} (e : rowS τ s = some l) (r : Rep h θ s v) : Rep h θ (.rd τ l) v := by
  unfold rowS at e
  split at e
  · obtain ⟨rfl, e2⟩ := castL_eq e
    subst e2; exact r
  · obtain ⟨rfl, e2⟩ := castL_eq e
    subst e2; cases r; assumption
  · cases e; cases r; exact .rdnil _ _ _
  · cases e
theorem decBytes_rep {s : SV} {l : List Int} {ss ss' : List SV} {vs : List Value} (e : bytesS s = some l) (r : RepC h θ (s :: ss) vs) (rest : ∀ vs, RepC h θ ss vs → RepC h θ ss' vs) : RepC h θ (.rd .u8 l :: ss') vs :=
  r.swap (bytes_na e) rfl (fun v rv => rd_of_bytes e rv) rest
theorem decBool_rep {s : SV} {q : Bool} {ss ss' : List SV} {vs : List Value} (e : boolS s = some q) (r : RepC h θ (s :: ss) vs) (rest : ∀ vs, RepC h θ ss vs → RepC h θ ss' vs) : RepC h θ (svB q :: ss') vs :=
  r.swap (bool_na e) rfl (fun v rv => (v_of_bool e rv).2) rest
theorem guests_na {s : SV} {l : List PGuest} (e : guestsS s = some l) : ∀ k n l, s ≠ .arr k n l := fun k n l q => by subst q; cases e
theorem vcpus_na {s : SV} {l : List PVcpu} (e : vcpusS s = some l) : ∀ k n l, s ≠ .arr k n l := fun k n l q => by subst q; cases e
theorem decMach_rep {cs ss : List SV} {m : PMach} {vs : List Value} (e : decMach cs = some m) (r : RepC h θ (cs ++ ss) vs) : RepC h θ (machC m ++ ss) vs := by
  unfold decMach at e
  split at e
  · rename_i rg pc c mm t o hb
    cases h1 : bytesS mm with
    | none => rw [h1] at e; cases e
    | some m' =>
      rw [h1] at e; simp only [Option.bind_some] at e
      cases h2 : bytesS o with
      | none => rw [h2] at e; cases e
      | some o' =>
        rw [h2] at e; simp only [Option.bind_some] at e
        cases h3 : boolS hb with
        | none => rw [h3] at e; cases e
        | some q =>
          rw [h3] at e; cases e
          refine r.keep fun _ r => r.keep fun _ r => r.keep fun _ r => ?_
          exact decBytes_rep h1 r fun _ r => r.keep fun _ r => decBytes_rep h2 r fun _ r => decBool_rep h3 r fun _ r => r
  · cases e
theorem decGuest_rep {cs : List SV} {g : PGuest} {vs : List Value} (e : decGuest cs = some g) (r : RepC h θ cs vs) : RepC h θ (guestC g) vs := decE_rep (τ := .guest) e r
theorem decConf_rep {cs ss : List SV} {c : PConf} {vs : List Value} (e : decConf cs = some c) (r : RepC h θ (cs ++ ss) vs) : RepC h θ (confC c ++ ss) vs := by
  unfold decConf at e
  split at e
  · rename_i a g
    cases h1 : guestsS g with
    | none => rw [h1] at e; cases e
    | some g' =>
      rw [h1] at e; cases e
      exact r.keep fun _ r => r.swap (guests_na h1) rfl (fun v rv => rd_of_guests h1 rv) fun _ r => r
  · cases e
theorem decMon_rep {cs : List SV} {m : PMon} {vs : List Value} (e : decMon cs = some m) (r : RepC h θ cs vs) : RepC h θ (monC m) vs := by
  unfold decMon at e
  split at e
  · rename_i c1 c2 rg p c mm t o hb vl last
    cases h1 : decConf [c1, c2] with
    | none => rw [h1] at e; cases e
    | some cf =>
      rw [h1] at e; simp only [Option.bind_some] at e
      cases h2 : decMach [.arr .u32 16 rg, p, .arr .u32 12 c, mm, t, o, hb] with
      | none => rw [h2] at e; cases e
      | some hm =>
        rw [h2] at e; simp only [Option.bind_some] at e
        cases h3 : vcpusS vl with
        | none => rw [h3] at e; cases e
        | some vs' =>
          rw [h3] at e; cases e
          have r1 := decConf_rep (ss := _) h1 r
          unfold monC
          rw [List.append_assoc]
          simp only [confC, List.cons_append, List.nil_append] at r1 ⊢
          refine r1.keep fun _ r => r.keep fun _ r => ?_
          have r2 := decMach_rep (ss := [vl, .v (.int .i64 last)]) h2 r
          simp only [machC, List.cons_append, List.nil_append] at r2 ⊢
          refine r2.keep fun _ r => r.keep fun _ r => r.keep fun _ r => r.keep fun _ r => r.keep fun _ r => r.keep fun _ r => r.keep fun _ r => ?_
          exact r.swap (vcpus_na h3) rfl (fun v rv => rd_of_vcpus h3 rv) fun _ r => r
  · cases e
theorem decStep_rep {cs : List SV} {s : PStep} {vs : List Value} (e : decStep cs = some s) (r : RepC h θ cs vs) : RepC h θ (stepC s) vs := by
  unfold decStep at e
  split at e
  · rename_i a b c d e' f g i1 i2 i3 i4 i5 x y z t1 t2
    cases h1 : decMach [a, b, c, d, e', f, g] with
    | none => rw [h1] at e; cases e
    | some m =>
      rw [h1] at e; simp only [Option.bind_some] at e
      cases h2 : decInstr [i1, i2, i3, i4, i5] with
      | none => rw [h2] at e; cases e
      | some i =>
        rw [h2] at e; simp only [Option.bind_some] at e
        cases h3 : decTrap [t1, t2] with
        | none => rw [h3] at e; cases e
        | some t =>
          rw [h3] at e; cases e
          have r1 := decMach_rep (ss := _) h1 r
          unfold decInstr at h2
          split at h2
          · rename_i hi
            cases h2
            simp only [List.cons.injEq, and_true] at hi
            obtain ⟨rfl, rfl, rfl, rfl, rfl⟩ := hi
            unfold decTrap at h3
            split at h3
            · rename_i ht
              cases h3
              simp only [List.cons.injEq, and_true] at ht
              obtain ⟨rfl, rfl⟩ := ht
              exact r1
            · cases h3
          · cases h2
  · cases e
theorem agg_rep {cs cs' : List SV} {v : Value} (r : Rep h θ (.agg cs) v) (q : ∀ vs, RepC h θ cs vs → RepC h θ cs' vs) : Rep h θ (.agg cs') v := by
  cases r; exact .agg _ _ (q _ ‹_›)
theorem decA_rep {t : AT} {s : SV} {x : t.T} {v : Value} (e : decA t s = some x) (r : Rep h θ s v) : Rep h θ (encA t x) v := by
  unfold decA at e
  split at e
  · rename_i k k' n
    obtain ⟨hk, rfl⟩ := bif_some e
    have : k = k' := by simpa using hk
    subst this; exact r
  · exact (v_of_bool e r).2
  · rename_i k n k' n' l
    obtain ⟨hk, rfl⟩ := bif_some e
    simp only [Bool.and_eq_true, beq_iff_eq] at hk
    obtain ⟨rfl, h2⟩ := hk
    rw [Nat.eq_of_beq_eq_true h2]; exact r
  · cases e; exact r
  · refine agg_rep r fun vs r => ?_
    unfold decCore at e; split at e <;> cases e; exact r
  · exact agg_rep r fun vs r => by simpa using decMach_rep (ss := []) e (by simpa using r)
  · exact agg_rep r fun vs r => decE_rep (τ := .trap) e r
  · exact agg_rep r fun vs r => decE_rep (τ := .instr) e r
  · refine agg_rep r fun vs r => ?_
    unfold decPart at e; split at e <;> cases e; exact r
  · exact agg_rep r fun vs r => decGuest_rep e r
  · exact agg_rep r fun vs r => by simpa using decConf_rep (ss := []) e (by simpa using r)
  · exact agg_rep r fun vs r => decE_rep (τ := .event) e r
  · exact agg_rep r fun vs r => decE_rep (τ := .vcpu) e r
  · exact agg_rep r fun vs r => decMon_rep e r
  · exact rowS_rep e r
  · cases r; exact .pp _ _ _ _ _ _ _ _ ‹_› (decStep_rep e ‹_›) ‹_›
  · cases e
theorem decArgs_rep : ∀ {ts : List AT} {ss : List SV} {x : ArgT ts} {vs : List Value}, decArgs ts ss = some x → RepL h θ ss vs → RepL h θ (encArgs ts x) vs
  | [], [], x, vs, e, r => r
  | [], s :: ss, x, vs, e, r => by cases e
  | t :: ts, [], x, vs, e, r => by cases e
  | t :: ts, s :: ss, x, vs, e, r => by
    simp only [decArgs] at e
    obtain ⟨y, h1, h2⟩ := Option.bind_eq_some_iff.1 e
    obtain ⟨z, h3, rfl⟩ := Option.map_eq_some_iff.1 h2
    obtain ⟨v, vs', rfl, r1, r2⟩ := r.cons_inv
    exact .cons _ _ _ _ (decA_rep h1 r1) (decArgs_rep h3 r2)
theorem decTup_rep : ∀ {ts : List AT} {ss : List SV} {x : TupT ts} {vs : List Value}, decTup ts ss = some x → RepL h θ ss vs → RepL h θ (encTup ts x) vs
  | [], [], x, vs, e, r => r
  | [], s :: ss, x, vs, e, r => by cases e
  | [t], [], x, vs, e, r => by cases e
  | [t], [s], x, vs, e, r => by
    obtain ⟨v, vs', rfl, r1, r2⟩ := r.cons_inv
    exact .cons _ _ _ _ (decA_rep (x := x) e r1) r2
  | [t], s :: s' :: ss, x, vs, e, r => by cases e
  | t :: t' :: ts, [], x, vs, e, r => by cases e
  | t :: t' :: ts, s :: ss, x, vs, e, r => by
    simp only [decTup] at e
    obtain ⟨y, h1, h2⟩ := Option.bind_eq_some_iff.1 e
    obtain ⟨z, h3, rfl⟩ := Option.map_eq_some_iff.1 h2
    obtain ⟨v, vs', rfl, r1, r2⟩ := r.cons_inv
    exact .cons _ _ _ _ (decA_rep h1 r1) (decTup_rep h3 r2)
theorem tup_rep {ss ss' : List SV} {v : Value} (r : Rep h θ (.tup ss) v) (q : ∀ vs, RepL h θ ss vs → RepL h θ ss' vs) : Rep h θ (.tup ss') v := by
  cases r; exact .tup _ _ (q _ ‹_›)
theorem decO_rep : ∀ {ts : List AT} {s : SV} {x : TupT ts} {v : Value}, decO ts s = some x → Rep h θ s v → Rep h θ (encO ts x) v
  | [t], s, x, v, e, r => decA_rep (x := x) e r
  | [], s, x, v, e, r => by
    cases s <;> first | (cases e; done) | skip
    exact tup_rep r fun vs r => decTup_rep (ts := []) e r
  | t :: t' :: ts, s, x, v, e, r => by
    cases s <;> first | (cases e; done) | skip
    exact tup_rep r fun vs r => decTup_rep (ts := t :: t' :: ts) e r
end rep

/-! contracts -/
def sig (as rs : List AT) (F : ArgT as → TupT rs) (pre : ArgT as → Bool := fun _ => true) : Spec := ⟨TupT rs, fun svs => (decArgs as svs).map fun a => (pre a, F a), encO rs, okO rs⟩
def lookS : List (FuncId × Spec) → FuncId → Option Spec
  | [], _ => none
  | p :: r, f => bif Nat.beq p.1 f then some p.2 else lookS r f
def Env.adds (B : Env) (l : List (FuncId × Spec)) : Env := { P := B.P, ety := B.ety, glob := B.glob, spec := lookS l, callee := B.callee }
def AllOk (B : Env) : List (FuncId × Spec) → Prop
  | [] => True
  | p :: r => SpecOk B p.1 p.2 ∧ AllOk B r
theorem lookS_ok {B : Env} : ∀ {l : List (FuncId × Spec)} {f : FuncId} {S : Spec}, AllOk B l → lookS l f = some S → SpecOk B f S
  | [], f, S, h, e => by cases e
  | p :: r, f, S, h, e => by
    simp only [lookS] at e
    cases hb : Nat.beq p.1 f with
    | true =>
      rw [hb] at e; cases e
      rw [← Nat.eq_of_beq_eq_true hb]; exact h.1
    | false => rw [hb] at e; exact lookS_ok h.2 e
theorem EnvOk.adds {B : Env} (ok : EnvOk B) {l : List (FuncId × Spec)} (h : AllOk B l) : EnvOk (B.adds l) :=
  ⟨ok.mixed, fun f S e => (show SpecOk B f S from lookS_ok h e), ok.callee⟩
theorem SpecOk.up {B : Env} {l : List (FuncId × Spec)} {f : FuncId} {S : Spec} (h : SpecOk (B.adds l) f S) : SpecOk B f S := h

theorem map_pre {as rs : List AT} {F : ArgT as → TupT rs} {pre : ArgT as → Bool} {svs : List SV} {x : TupT rs} (e : (sig as rs F pre).run svs = some (true, x)) : ∃ a, decArgs as svs = some a ∧ pre a = true ∧ x = F a := by
  obtain ⟨a, h1, h2⟩ := Option.map_eq_some_iff.1 (show (decArgs as svs).map _ = _ from e)
  simp only [Prod.mk.injEq] at h2
  exact ⟨a, h1, h2.1, h2.2.symm⟩
theorem spec_sig {E : Env} (ok : EnvOk E) {n : Nat} {f : FuncId} {as rs : List AT} {F : ArgT as → TupT rs} {pre : ArgT as → Bool}
    (e : ∀ a, pre a = true → okSL (encArgs as a) → (evF E n f (encArgs as a)).ends fun r => decO rs r = some (F a)) : SpecOk E f (sig as rs F pre) :=
  fun svs x hx h w us hag hg ru => by
    obtain ⟨a, h1, h2, rfl⟩ := map_pre hx
    have ru' := decArgs_rep h1 ru
    exact (evF_ok ok (e a h2 (repL_ok ru')) hag hg ru').mono fun en w' ⟨v, r, h', q1, q2, q4, q5, q6, q7, q8⟩ =>
      have q9 : Rep h' Th0 (encO rs (F a)) v := decO_rep q2 q8
      ⟨v, h', q1, q4, q5, q6, q7, q9, rep_ok q9⟩
theorem spec_sigL {E : Env} (ok : EnvOk E) {n : Nat} {f : FuncId} {as rs : List AT} {F : ArgT as → TupT rs} {pre : ArgT as → Bool} (L : ArgT as → Nat → Option LoopSpec)
    (e : ∀ a, pre a = true → okSL (encArgs as a) → (evFL E (L a) n f (encArgs as a)).ends fun r => decO rs r = some (F a)) : SpecOk E f (sig as rs F pre) :=
  fun svs x hx h w us hag hg ru => by
    obtain ⟨a, h1, h2, rfl⟩ := map_pre hx
    have ru' := decArgs_rep h1 ru
    exact (evFL_ok ok (L a) (e a h2 (repL_ok ru')) hag hg ru').mono fun en w' ⟨v, r, h', q1, q2, q4, q5, q6, q7, q8⟩ =>
      have q9 : Rep h' Th0 (encO rs (F a)) v := decO_rep q2 q8
      ⟨v, h', q1, q4, q5, q6, q7, q9, rep_ok q9⟩

theorem spec_sigLs {E : Env} (ok : EnvOk E) {n : Nat} {f : FuncId} {as rs : List AT} {F : ArgT as → TupT rs} {pre : ArgT as → Bool} (L : ArgT as → Nat → Option (St → LoopSpec))
    (e : ∀ a, pre a = true → okSL (encArgs as a) → (evFLs E (L a) n f (encArgs as a)).ends fun r => decO rs r = some (F a)) : SpecOk E f (sig as rs F pre) :=
  fun svs x hx h w us hag hg ru => by
    obtain ⟨a, h1, h2, rfl⟩ := map_pre hx
    have ru' := decArgs_rep h1 ru
    exact (evFLs_ok ok (L a) (e a h2 (repL_ok ru')) hag hg ru').mono fun en w' ⟨v, r, h', q1, q2, q4, q5, q6, q7, q8⟩ =>
      have q9 : Rep h' Th0 (encO rs (F a)) v := decO_rep q2 q8
      ⟨v, h', q1, q4, q5, q6, q7, q9, rep_ok q9⟩

/-! callees -/
def calleeB (P : Program) (f : FuncId) : Bool := match P.funcs[f]? with
  | some fn => fn.body.isSome && !(fn.name == "runtime.NumGoroutine")
  | none => false
theorem callees_of {P : Program} {lo hi : Nat} (h : (List.range (hi + 1)).all (fun f => !Nat.ble lo f || calleeB P f) = true) : ∀ f, (Nat.ble lo f && Nat.ble f hi) = true → ∀ args w, (callFunc f args).run P w = .ok (.enter f args) w := fun f hf args w => by
  simp only [Bool.and_eq_true] at hf
  have h1 := List.all_eq_true.1 h f (by have := Nat.le_of_ble_eq_true hf.2; simp; omega)
  rw [hf.1] at h1
  have h1 : calleeB P f = true := by simpa using h1
  unfold calleeB at h1
  split at h1
  · rename_i fn hfn
    simp only [Bool.and_eq_true, Bool.not_eq_true', beq_eq_false_iff_ne] at h1
    have hb : fn.body ≠ none := fun q => by rw [q] at h1; simp at h1
    simp [callFunc, hfn, h1.2, hb]
  · cases h1
end Go.Proofs.YtchljgmcempedaaGreatDoor
