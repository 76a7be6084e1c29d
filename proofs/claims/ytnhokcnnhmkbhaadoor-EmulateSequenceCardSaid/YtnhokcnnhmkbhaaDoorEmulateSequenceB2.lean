/- Contracts of functions, by evaluation (nothing is claimed here). -/
import Derived.Test.YtnhokcnnhmkbhaaDoorSh29
import Derived.KernelRfl
import Derived.Test.YtnhokcnnhmkbhaaDoorProg
import Derived.Test.YtnhokcnnhmkbhaaDoorEmulateSequenceB1
set_option linter.unusedVariables false
set_option linter.unusedSimpArgs false
set_option maxRecDepth 100000
set_option maxHeartbeats 1000000
namespace Go.Proofs.YtnhokcnnhmkbhaaDoor
open Go
/-! emul_Emulate -/

def S_emul_Emulate : Spec := sig [.vcpu, .i .u32, .i .u64] [.vcpu] (fun (v, w, time, _) => K.emu v w time) (pre := fun (v, w, time, _) => decide (v.out.length ≤ 1099511627776 ∧ v.log.length ≤ 1099511627776))
noncomputable def E_emul_Emulate : Env := EB_0_1.adds [(33, S_emul_of), (34, S_priv_ReadsTime), (35, S_emul_seen), (36, S_vcpu_WithMachine), (37, S_priv_Execute), (38, S_vcpu_Machine)]

theorem ok_emul_Emulate : EnvOk E_emul_Emulate := okEB_0_1.adds (l := _) ⟨c_emul_of, (up_to_0_1 c_priv_ReadsTime), (up_to_0_1 c_emul_seen), (up_to_0_1 c_vcpu_WithMachine), (up_to_0_1 c_priv_Execute), (up_to_0_1 c_vcpu_Machine), trivial⟩

theorem t_emul_Emulate (v : PVcpu) (w : Int) (time : Int) : evF E_emul_Emulate 60 14 (encArgs [.vcpu, .i .u32, .i .u64] (v, w, time, ())) = 
  Tree.letv (okO [AT.instr, AT.b]) ((K.decode w).fst, (K.isPriv w)) fun x0 =>
  (bif x0.snd then
    (Tree.letv (okO [AT.b]) (K.reads x0.fst) fun x1 =>
    (bif x1 then
      (bif (Bool.and (decide ((0 : Int) ≤ (Int.ofNat (List.length v.log)))) (Bool.and (decide ((Int.ofNat (List.length v.log)) ≤ (Int.ofNat (List.length v.log)))) (decide ((Int.ofNat (List.length v.log)) = (Int.ofNat (List.length v.log)))))) then
        (Tree.letv (okO [AT.event]) (K.seen x0.fst v.done time) fun x2 =>
        (bif (Nat.ble (((List.length (List.drop 0 (List.take (Int.toNat (Int.ofNat (List.length v.log))) v.log))) + 1) * 24) 140737488355328) then
          (Tree.letv (okO [AT.mach]) (K.vmach (PVcpu.mk v.core v.out v.halted v.done (List.append (List.drop 0 (List.take (Int.toNat (Int.ofNat (List.length v.log))) v.log)) [x2])) [] time) fun x3 =>
          (bif (decide ((List.length x3.out) ≤ 1099511627776)) then
            (Tree.letv (okO [AT.mach]) (K.priv x3 x0.fst) fun x4 =>
            (Tree.letv (okO [AT.vcpu]) (K.vwith (PVcpu.mk v.core v.out v.halted v.done (List.append (List.drop 0 (List.take (Int.toNat (Int.ofNat (List.length v.log))) v.log)) [x2])) x4) fun x5 =>
            (Tree.leaf (SV.agg [(SV.arr IntKind.u32 16 x5.core.regs), (SV.v (Value.int IntKind.u32 x5.core.pc)), (SV.arr IntKind.u32 12 x5.core.csr), (SV.rd ETy.u8 x5.out), (SV.v (Value.bool x5.halted)), (SV.v (Value.int IntKind.i64 (IntKind.wrap IntKind.i64 (x5.done + (1 : Int))))), (SV.rd ETy.event x5.log)]))))
          else
            (Tree.fail)))
        else
          (Tree.fail)))
      else
        (Tree.fail))
    else
      (Tree.letv (okO [AT.mach]) (K.vmach v [] time) fun x2 =>
      (bif (decide ((List.length x2.out) ≤ 1099511627776)) then
        (Tree.letv (okO [AT.mach]) (K.priv x2 x0.fst) fun x3 =>
        (Tree.letv (okO [AT.vcpu]) (K.vwith v x3) fun x4 =>
        (Tree.leaf (SV.agg [(SV.arr IntKind.u32 16 x4.core.regs), (SV.v (Value.int IntKind.u32 x4.core.pc)), (SV.arr IntKind.u32 12 x4.core.csr), (SV.rd ETy.u8 x4.out), (SV.v (Value.bool x4.halted)), (SV.v (Value.int IntKind.i64 (IntKind.wrap IntKind.i64 (x4.done + (1 : Int))))), (SV.rd ETy.event x4.log)]))))
      else
        (Tree.fail)))))
  else
    (Tree.leaf (SV.agg [(SV.arr IntKind.u32 16 v.core.regs), (SV.v (Value.int IntKind.u32 v.core.pc)), (SV.arr IntKind.u32 12 v.core.csr), (SV.rd ETy.u8 v.out), (SV.v (Value.bool v.halted)), (SV.v (Value.int IntKind.i64 v.done)), (SV.rd ETy.event v.log)]))) := by kernel_rfl
theorem a_emul_Emulate (v : PVcpu) (w : Int) (time : Int) (hpre : v.out.length ≤ 1099511627776 ∧ v.log.length ≤ 1099511627776) (ok_v : okVcpu v) (ok_w : okI .u32 w) (ok_time : okI .u64 time) : (evF E_emul_Emulate 60 14 (encArgs [.vcpu, .i .u32, .i .u64] (v, w, time, ()))).ends fun out_ => decO [.vcpu] out_ = some (K.emu v w time) := by
  rw [t_emul_Emulate, Tree.ends_holds]
  simp only [Tree.holds_loop, Tree.holds_next, if_true, Tree.holds_cond, Tree.holds_letv, Tree.holds_leaf, Tree.holds_fail, decO, decA, decTup, decMach, decCore, decTrap, decInstr, decPart, decGuest, decConf, decEvent, decVcpu, bytesS, boolS, eventsS, intsS, guestsS, vcpusS, rowS, castL, Option.bind_some, Option.map_some, Option.some.injEq, Nat.beq_refl, beq_self_eq_true, Bool.and_self, cond_true, cond_false, eq_self, beq_iff_eq, beq_eq_false_iff_ne, bne_iff_ne, bne_eq_false_iff_eq, ne_eq, decide_eq_true_eq, decide_eq_false_iff_not, ble_true, ble_false, inRange_iff, inRange_false, List.drop_zero, Int.ofNat_eq_natCast, Int.toNat_natCast, List.take_length, List.append_eq, Bool.and_eq_true, decide_true, and_true, true_and, K.vwith, K.vmach, wrap_inc ok_v.done]
  have e1 : K.isPriv w = true → K.emu v w time = (let i := (K.decode w).1; let m := K.priv (K.vmach v [] time) i; { core := m.core, out := m.out, halted := m.halted, done := K.inc v.done, log := if K.reads i = true then v.log ++ [K.seen i v.done time] else v.log }) := fun h => by unfold K.emu; rw [if_pos h]
  have e2 : K.isPriv w = false → K.emu v w time = v := fun h => by unfold K.emu; rw [if_neg (by rw [h]; decide)]
  simp only [K.vmach] at e1
  repeat' (first | refine drop_ok ?_ | intro _ | with_reducible apply And.intro)
  all_goals first | omega | (rw [e1 (by assumption)]; simp_all; done) | (rw [e2 (by assumption)]) | (clear e1 e2; simp_all; done) | (clear e1 e2; simp_all; omega)
  
theorem c_emul_Emulate : SpecOk EB_0_1 14 S_emul_Emulate := spec_sig ok_emul_Emulate (n := 60) fun ⟨v, w, time, ⟨⟩⟩ h hok => a_emul_Emulate v w time (of_decide_eq_true h) (ok_vcpu (okSL_head hok)) (ok_int (okSL_head (okSL_tail hok))) (ok_int (okSL_head (okSL_tail (okSL_tail hok))))

/-! ref05_Same -/
@[reducible] def L_ref05_Same (a b : List Int) : LoopSpec where
  σ := Nat
  slots := [0, 1, 4, 5]
  keys := []
  vals := fun j => [.rd .u8 a, .rd .u8 b, .b false, .v (.int .i64 (j : Int))]
  blks := fun _ => []
  inv := fun j => j ≤ a.length ∧ a.take j = b.take j
  mu := fun j => a.length - j
def S_ref05_Same : Spec := sig [.rd .u8, .rd .u8] [.b] (fun (a, b, _) => decide (a = b))
noncomputable def E_ref05_Same : Env := EB.adds []

theorem ok_ref05_Same : EnvOk E_ref05_Same := okEB.adds (l := _) trivial

theorem t_ref05_Same (a : List Int) (b : List Int) : evFL E_ref05_Same (fun _ => some (L_ref05_Same a b)) 60 28 (encArgs [.rd .u8, .rd .u8] (a, b, ())) = 
  bif (bne (Int.ofNat (List.length a)) (Int.ofNat (List.length b))) then
    (Tree.leaf (SV.b false))
  else
    (Tree.loop 0 (L_ref05_Same a b) [(SV.rd ETy.u8 a), (SV.rd ETy.u8 b), (SV.b false), (SV.v (Value.int IntKind.i64 (0 : Int)))] [] fun (x0 : Nat) =>
    (bif (decide ((Int.ofNat x0) < (Int.ofNat (List.length a)))) then
      (bif (inRange (Int.ofNat x0) (List.length a)) then
        (bif (inRange (Int.ofNat x0) (List.length b)) then
          (bif (bne (List.getD a (Int.toNat (Int.ofNat x0)) (0 : Int)) (List.getD b (Int.toNat (Int.ofNat x0)) (0 : Int))) then
            (Tree.leaf (SV.b false))
          else
            ((Tree.next 0 [(SV.rd ETy.u8 a), (SV.rd ETy.u8 b), (SV.b false), (SV.v (Value.int IntKind.i64 (IntKind.wrap IntKind.i64 ((Int.ofNat x0) + (1 : Int)))))] [])))
        else
          (Tree.fail))
      else
        (Tree.fail))
    else
      (Tree.leaf (SV.b true)))) := by kernel_rfl
theorem a_ref05_Same (a : List Int) (b : List Int) (ok_a : okBytes a) (ok_b : okBytes b) : (evFL E_ref05_Same (fun _ => some (L_ref05_Same a b)) 60 28 (encArgs [.rd .u8, .rd .u8] (a, b, ()))).ends fun out_ => decO [.b] out_ = some (decide (a = b)) := by
  rw [t_ref05_Same, Tree.ends_holds]
  simp only [Tree.holds_cond, Tree.holds_leaf, Tree.holds_loop]
  refine ⟨fun h => ?_, fun h => ?_⟩
  · have h : ¬ ((a.length : Int) = (b.length : Int)) := by simpa using h
    have : a ≠ b := fun e => h (by rw [e])
    simp [decO, decA, decTup, decMach, decCore, decTrap, decInstr, decPart, decGuest, decConf, decEvent, decVcpu, bytesS, boolS, eventsS, intsS, guestsS, vcpusS, rowS, castL, Option.bind_some, Option.map_some, Option.some.injEq, Nat.beq_refl, beq_self_eq_true, Bool.and_self, cond_true, cond_false, eq_self, this]
  have hl : (a.length : Int) = (b.length : Int) := by simpa using h
  have hl : a.length = b.length := by omega
  have hlim : a.length ≤ 140737488355328 := ok_a.1
  refine ⟨⟨(0 : Nat), rfl, rfl, ⟨Nat.zero_le _, rfl⟩, trivial⟩, fun (j : Nat) ⟨hj, he⟩ => ?_⟩
  simp only [Tree.holds_loop, Tree.holds_next, if_true, Tree.holds_cond, Tree.holds_letv, Tree.holds_leaf, Tree.holds_fail]
  refine ⟨fun h => ?_, fun h => ?_⟩
  · have hlt : j < a.length := by simpa using h
    have r1 : inRange (j : Int) a.length = true := inRange_iff.2 ⟨by omega, by omega⟩
    have r2 : inRange (j : Int) b.length = true := inRange_iff.2 ⟨by omega, by omega⟩
    have e2 : IntKind.i64.wrap ((j : Int) + 1) = ((j + 1 : Nat) : Int) := by rw [wrapI64 (by omega) (by omega)]; rfl
    have ga : a.getD j 0 = a[j] := by simp [hlt]
    have gb : b.getD j 0 = b[j]'(by omega) := by simp [show j < b.length by omega]
    simp only [Int.ofNat_eq_natCast, Int.toNat_natCast, r1, r2, ga, gb]
    simp only [true_implies, Bool.true_eq_false, false_implies, and_true]
    refine ⟨fun q => ?_, fun q => ?_⟩
    · have : a ≠ b := fun e => by subst e; simp at q
      simp [decO, decA, decTup, decMach, decCore, decTrap, decInstr, decPart, decGuest, decConf, decEvent, decVcpu, bytesS, boolS, eventsS, intsS, guestsS, vcpusS, rowS, castL, Option.bind_some, Option.map_some, Option.some.injEq, Nat.beq_refl, beq_self_eq_true, Bool.and_self, cond_true, cond_false, eq_self, this]
    · have q : a[j] = b[j]'(by omega) := by simpa using q
      refine ⟨j + 1, by rw [e2], rfl, ⟨by omega, ?_⟩, by show a.length - (j + 1) < a.length - j; omega⟩
      rw [List.take_succ_eq_append_getElem hlt, List.take_succ_eq_append_getElem (show j < b.length by omega), he, q]
  · have : j = a.length := by simp at h; omega
    subst this
    have : a = b := by rw [List.take_length] at he; rw [hl, List.take_length] at he; exact he
    simp [decO, decA, decTup, decMach, decCore, decTrap, decInstr, decPart, decGuest, decConf, decEvent, decVcpu, bytesS, boolS, eventsS, intsS, guestsS, vcpusS, rowS, castL, Option.bind_some, Option.map_some, Option.some.injEq, Nat.beq_refl, beq_self_eq_true, Bool.and_self, cond_true, cond_false, eq_self, this]
  
theorem c_ref05_Same : SpecOk EB 28 S_ref05_Same := spec_sigL ok_ref05_Same (n := 60) (fun (a, b, _) => fun _ => some (L_ref05_Same a b)) fun ⟨a, b, ⟨⟩⟩ h hok => a_ref05_Same a b (ok_bytes (okSL_head hok)) (ok_bytes (okSL_head (okSL_tail hok)))

/-! ref16_Events -/
@[reducible] def L_ref16_Events (a b : List PEvent) : LoopSpec where
  σ := Nat
  slots := [0, 1, 4, 5]
  keys := []
  vals := fun j => [.rd .event a, .rd .event b, .b false, .v (.int .i64 (j : Int))]
  blks := fun _ => []
  inv := fun j => j ≤ a.length ∧ a.take j = b.take j
  mu := fun j => a.length - j
def S_ref16_Events : Spec := sig [.rd .event, .rd .event] [.b] (fun (a, b, _) => decide (a = b))
noncomputable def E_ref16_Events : Env := EB.adds []

theorem ok_ref16_Events : EnvOk E_ref16_Events := okEB.adds (l := _) trivial

theorem t_ref16_Events (a : List PEvent) (b : List PEvent) : evFL E_ref16_Events (fun _ => some (L_ref16_Events a b)) 60 18 (encArgs [.rd .event, .rd .event] (a, b, ())) = 
  bif (bne (Int.ofNat (List.length a)) (Int.ofNat (List.length b))) then
    (Tree.leaf (SV.b false))
  else
    (Tree.loop 0 (L_ref16_Events a b) [(SV.rd ETy.event a), (SV.rd ETy.event b), (SV.b false), (SV.v (Value.int IntKind.i64 (0 : Int)))] [] fun (x0 : Nat) =>
    (bif (decide ((Int.ofNat x0) < (Int.ofNat (List.length a)))) then
      (bif (inRange (Int.ofNat x0) (List.length a)) then
        (bif (inRange (Int.ofNat x0) (List.length b)) then
          (bif (Bool.not (Bool.and (BEq.beq (List.getD a (Int.toNat (Int.ofNat x0)) (PEvent.mk (0 : Int) (0 : Int) (0 : Int))).kind (List.getD b (Int.toNat (Int.ofNat x0)) (PEvent.mk (0 : Int) (0 : Int) (0 : Int))).kind) (Bool.and (BEq.beq (List.getD a (Int.toNat (Int.ofNat x0)) (PEvent.mk (0 : Int) (0 : Int) (0 : Int))).at_ (List.getD b (Int.toNat (Int.ofNat x0)) (PEvent.mk (0 : Int) (0 : Int) (0 : Int))).at_) (Bool.and (BEq.beq (List.getD a (Int.toNat (Int.ofNat x0)) (PEvent.mk (0 : Int) (0 : Int) (0 : Int))).time (List.getD b (Int.toNat (Int.ofNat x0)) (PEvent.mk (0 : Int) (0 : Int) (0 : Int))).time) true)))) then
            (Tree.leaf (SV.b false))
          else
            ((Tree.next 0 [(SV.rd ETy.event a), (SV.rd ETy.event b), (SV.b false), (SV.v (Value.int IntKind.i64 (IntKind.wrap IntKind.i64 ((Int.ofNat x0) + (1 : Int)))))] [])))
        else
          (Tree.fail))
      else
        (Tree.fail))
    else
      (Tree.leaf (SV.b true)))) := by kernel_rfl
theorem a_ref16_Events (a : List PEvent) (b : List PEvent) (ok_a : okEvents a) (ok_b : okEvents b) : (evFL E_ref16_Events (fun _ => some (L_ref16_Events a b)) 60 18 (encArgs [.rd .event, .rd .event] (a, b, ()))).ends fun out_ => decO [.b] out_ = some (decide (a = b)) := by
  rw [t_ref16_Events, Tree.ends_holds]
  simp only [Tree.holds_cond, Tree.holds_leaf, Tree.holds_loop]
  refine ⟨fun h => ?_, fun h => ?_⟩
  · have h : ¬ ((a.length : Int) = (b.length : Int)) := by simpa using h
    have : a ≠ b := fun e => h (by rw [e])
    simp [decO, decA, decTup, decMach, decCore, decTrap, decInstr, decPart, decGuest, decConf, decEvent, decVcpu, bytesS, boolS, eventsS, intsS, guestsS, vcpusS, rowS, castL, Option.bind_some, Option.map_some, Option.some.injEq, Nat.beq_refl, beq_self_eq_true, Bool.and_self, cond_true, cond_false, eq_self, this]
  have hl : (a.length : Int) = (b.length : Int) := by simpa using h
  have hl : a.length = b.length := by omega
  have hlim : a.length ≤ 140737488355328 := ok_a.1
  refine ⟨⟨(0 : Nat), rfl, rfl, ⟨Nat.zero_le _, rfl⟩, trivial⟩, fun (j : Nat) ⟨hj, he⟩ => ?_⟩
  simp only [Tree.holds_loop, Tree.holds_next, if_true, Tree.holds_cond, Tree.holds_letv, Tree.holds_leaf, Tree.holds_fail]
  refine ⟨fun h => ?_, fun h => ?_⟩
  · have hlt : j < a.length := by simpa using h
    have r1 : inRange (j : Int) a.length = true := inRange_iff.2 ⟨by omega, by omega⟩
    have r2 : inRange (j : Int) b.length = true := inRange_iff.2 ⟨by omega, by omega⟩
    have e2 : IntKind.i64.wrap ((j : Int) + 1) = ((j + 1 : Nat) : Int) := by rw [wrapI64 (by omega) (by omega)]; rfl
    have ga : a.getD j ⟨0, 0, 0⟩ = a[j] := by simp [hlt]
    have gb : b.getD j ⟨0, 0, 0⟩ = b[j]'(by omega) := by simp [show j < b.length by omega]
    simp only [Int.ofNat_eq_natCast, Int.toNat_natCast, r1, r2, ga, gb]
    simp only [true_implies, Bool.true_eq_false, false_implies, and_true]
    have hq : ((a[j].kind == (b[j]'(by omega)).kind && (a[j].at_ == (b[j]'(by omega)).at_ && a[j].time == (b[j]'(by omega)).time)) = true) ↔ a[j] = b[j]'(by omega) := by
      simp only [Bool.and_eq_true, beq_iff_eq]
      constructor
      · rintro ⟨q1, q2, q3⟩
        cases hx : a[j]; cases hy : b[j]'(by omega); simp_all
      · intro h; rw [h]; simp
    refine ⟨fun q => ?_, fun q => ?_⟩
    · have : a ≠ b := fun e => by subst e; simp at q
      simp [decO, decA, decTup, decMach, decCore, decTrap, decInstr, decPart, decGuest, decConf, decEvent, decVcpu, bytesS, boolS, eventsS, intsS, guestsS, vcpusS, rowS, castL, Option.bind_some, Option.map_some, Option.some.injEq, Nat.beq_refl, beq_self_eq_true, Bool.and_self, cond_true, cond_false, eq_self, this]
    · have q : a[j] = b[j]'(by omega) := hq.1 (by simpa using q)
      refine ⟨j + 1, by rw [e2], rfl, ⟨by omega, ?_⟩, by show a.length - (j + 1) < a.length - j; omega⟩
      rw [List.take_succ_eq_append_getElem hlt, List.take_succ_eq_append_getElem (show j < b.length by omega), he, q]
  · have : j = a.length := by simp at h; omega
    subst this
    have : a = b := by rw [List.take_length] at he; rw [hl, List.take_length] at he; exact he
    simp [decO, decA, decTup, decMach, decCore, decTrap, decInstr, decPart, decGuest, decConf, decEvent, decVcpu, bytesS, boolS, eventsS, intsS, guestsS, vcpusS, rowS, castL, Option.bind_some, Option.map_some, Option.some.injEq, Nat.beq_refl, beq_self_eq_true, Bool.and_self, cond_true, cond_false, eq_self, this]
  
theorem c_ref16_Events : SpecOk EB 18 S_ref16_Events := spec_sigL ok_ref16_Events (n := 60) (fun (a, b, _) => fun _ => some (L_ref16_Events a b)) fun ⟨a, b, ⟨⟩⟩ h hok => a_ref16_Events a b (ok_events (okSL_head hok)) (ok_events (okSL_head (okSL_tail hok)))

/-! ref16_Same -/

def S_ref16_Same : Spec := sig [.vcpu, .vcpu] [.b] (fun (a, b, _) => decide (a = b))
noncomputable def E_ref16_Same : Env := EB.adds [(28, S_ref05_Same), (18, S_ref16_Events)]

theorem ok_ref16_Same : EnvOk E_ref16_Same := okEB.adds (l := _) ⟨c_ref05_Same, c_ref16_Events, trivial⟩

theorem t_ref16_Same (a : PVcpu) (b : PVcpu) : evF E_ref16_Same 60 13 (encArgs [.vcpu, .vcpu] (a, b, ())) = 
  bif (Bool.and (decide (a.core.regs = b.core.regs)) (Bool.and (BEq.beq a.core.pc b.core.pc) (Bool.and (decide (a.core.csr = b.core.csr)) true))) then
    (bif a.halted then
      (bif b.halted then
        (bif (BEq.beq a.done b.done) then
          (Tree.letv (okO [AT.b]) (decide (a.out = b.out)) fun x0 =>
          (bif x0 then
            (Tree.letv (okO [AT.b]) (decide (a.log = b.log)) fun x1 =>
            (bif x1 then
              (Tree.leaf (SV.b true))
            else
              (Tree.leaf (SV.b false))))
          else
            (Tree.leaf (SV.b false))))
        else
          (Tree.leaf (SV.b false)))
      else
        (Tree.leaf (SV.b false)))
    else
      (bif b.halted then
        (Tree.leaf (SV.b false))
      else
        (bif (BEq.beq a.done b.done) then
          (Tree.letv (okO [AT.b]) (decide (a.out = b.out)) fun x0 =>
          (bif x0 then
            (Tree.letv (okO [AT.b]) (decide (a.log = b.log)) fun x1 =>
            (bif x1 then
              (Tree.leaf (SV.b true))
            else
              (Tree.leaf (SV.b false))))
          else
            (Tree.leaf (SV.b false))))
        else
          (Tree.leaf (SV.b false)))))
  else
    (Tree.leaf (SV.b false)) := by kernel_rfl
theorem a_ref16_Same (a : PVcpu) (b : PVcpu) (ok_a : okVcpu a) (ok_b : okVcpu b) : (evF E_ref16_Same 60 13 (encArgs [.vcpu, .vcpu] (a, b, ()))).ends fun out_ => decO [.b] out_ = some (decide (a = b)) := by
  rw [t_ref16_Same, Tree.ends_holds]
  simp only [Tree.holds_loop, Tree.holds_next, if_true, Tree.holds_cond, Tree.holds_letv, Tree.holds_leaf, Tree.holds_fail, decO, decA, decTup, decMach, decCore, decTrap, decInstr, decPart, decGuest, decConf, decEvent, decVcpu, bytesS, boolS, eventsS, intsS, guestsS, vcpusS, rowS, castL, Option.bind_some, Option.map_some, Option.some.injEq, Nat.beq_refl, beq_self_eq_true, Bool.and_self, cond_true, cond_false, eq_self]
  have key : a = b ↔ (a.core.regs = b.core.regs ∧ a.core.pc = b.core.pc ∧ a.core.csr = b.core.csr ∧ a.halted = b.halted ∧ a.done = b.done ∧ a.out = b.out ∧ a.log = b.log) := by
    constructor
    · rintro rfl; simp
    · rintro ⟨h1, h2, h3, h4, h5, h6, h7⟩; exact vcpu_ext (core_ext h1 h2 h3) h6 h4 h5 h7
  simp only [key]
  repeat' (first | refine drop_ok ?_ | intro _ | with_reducible apply And.intro)
  all_goals simp_all
  
theorem c_ref16_Same : SpecOk EB 13 S_ref16_Same := spec_sig ok_ref16_Same (n := 60) fun ⟨a, b, ⟨⟩⟩ h hok => a_ref16_Same a b (ok_vcpu (okSL_head hok)) (ok_vcpu (okSL_head (okSL_tail hok)))

/-! trap_IsSupervisor -/

def S_trap_IsSupervisor : Spec := sig [.core] [.b] (fun (c, _) => K.super c)
noncomputable def E_trap_IsSupervisor : Env := EB.adds []

theorem ok_trap_IsSupervisor : EnvOk E_trap_IsSupervisor := okEB.adds (l := _) trivial

theorem t_trap_IsSupervisor (c : PCore) : evF E_trap_IsSupervisor 60 41 (encArgs [.core] (c, ())) = 
  bif (bne (andI IntKind.u32 (List.getD c.csr 0 (0 : Int)) (1 : Int)) (0 : Int)) then
    (Tree.leaf (SV.b true))
  else
    (Tree.leaf (SV.b false)) := by kernel_rfl
theorem a_trap_IsSupervisor (c : PCore) (ok_c : okCore c) : (evF E_trap_IsSupervisor 60 41 (encArgs [.core] (c, ()))).ends fun out_ => decO [.b] out_ = some (K.super c) := by
  rw [t_trap_IsSupervisor, Tree.ends_holds]
  obtain ⟨s0, s1⟩ := ok_c.csr.u32 (i := 0) (by omega)
  simp only [Tree.holds_loop, Tree.holds_next, if_true, Tree.holds_cond, Tree.holds_letv, Tree.holds_leaf, Tree.holds_fail, decO, decA, decTup, decMach, decCore, decTrap, decInstr, decPart, decGuest, decConf, decEvent, decVcpu, bytesS, boolS, eventsS, intsS, guestsS, vcpusS, rowS, castL, Option.bind_some, Option.map_some, Option.some.injEq, Nat.beq_refl, beq_self_eq_true, Bool.and_self, cond_true, cond_false, eq_self, beq_iff_eq, beq_eq_false_iff_ne, bne_iff_ne, bne_eq_false_iff_eq, ne_eq, decide_eq_true_eq, decide_eq_false_iff_not, ble_true, ble_false, inRange_iff, inRange_false, K.super, and_1 s0 s1]
  repeat' (first | refine drop_ok ?_ | intro _ | with_reducible apply And.intro)
  all_goals (simp_all; try omega)
  
theorem c_trap_IsSupervisor : SpecOk EB 41 S_trap_IsSupervisor := spec_sig ok_trap_IsSupervisor (n := 60) fun ⟨c, ⟨⟩⟩ h hok => a_trap_IsSupervisor c (ok_core (okSL_head hok))

/-! emul_CanEmulate -/

def S_emul_CanEmulate : Spec := sig [.vcpu, .trap] [.b] (fun (v, t, _) => K.can v t)
noncomputable def E_emul_CanEmulate : Env := EB_0_1.adds [(33, S_emul_of), (41, S_trap_IsSupervisor)]

theorem ok_emul_CanEmulate : EnvOk E_emul_CanEmulate := okEB_0_1.adds (l := _) ⟨c_emul_of, (up_to_0_1 c_trap_IsSupervisor), trivial⟩

theorem t_emul_CanEmulate (v : PVcpu) (t : PTrap) : evF E_emul_CanEmulate 60 16 (encArgs [.vcpu, .trap] (v, t, ())) = 
  Tree.letv (okO [AT.instr, AT.b]) ((K.decode t.tval).fst, (K.isPriv t.tval)) fun x0 =>
  (bif x0.snd then
    (bif (BEq.beq t.cause (2 : Int)) then
      (Tree.letv (okO [AT.b]) (K.super v.core) fun x1 =>
      (bif x1 then
        (Tree.leaf (SV.b true))
      else
        (Tree.leaf (SV.b false))))
    else
      (Tree.leaf (SV.b false)))
  else
    (Tree.leaf (SV.b false))) := by kernel_rfl
theorem a_emul_CanEmulate (v : PVcpu) (t : PTrap) (ok_v : okVcpu v) (ok_t : okTrap t) : (evF E_emul_CanEmulate 60 16 (encArgs [.vcpu, .trap] (v, t, ()))).ends fun out_ => decO [.b] out_ = some (K.can v t) := by
  rw [t_emul_CanEmulate, Tree.ends_holds]
  simp only [Tree.holds_loop, Tree.holds_next, if_true, Tree.holds_cond, Tree.holds_letv, Tree.holds_leaf, Tree.holds_fail, decO, decA, decTup, decMach, decCore, decTrap, decInstr, decPart, decGuest, decConf, decEvent, decVcpu, bytesS, boolS, eventsS, intsS, guestsS, vcpusS, rowS, castL, Option.bind_some, Option.map_some, Option.some.injEq, Nat.beq_refl, beq_self_eq_true, Bool.and_self, cond_true, cond_false, eq_self, beq_iff_eq, beq_eq_false_iff_ne, bne_iff_ne, bne_eq_false_iff_eq, ne_eq, decide_eq_true_eq, decide_eq_false_iff_not, ble_true, ble_false, inRange_iff, inRange_false, K.can]
  repeat' (first | refine drop_ok ?_ | intro _ | with_reducible apply And.intro)
  all_goals simp_all
  
theorem c_emul_CanEmulate : SpecOk EB_0_1 16 S_emul_CanEmulate := spec_sig ok_emul_CanEmulate (n := 60) fun ⟨v, t, ⟨⟩⟩ h hok => a_emul_CanEmulate v t (ok_vcpu (okSL_head hok)) (ok_trap (okSL_head (okSL_tail hok)))

/-! law19_awake -/

def S_law19_awake : Spec := sig [] [.b] (fun _ => true)
noncomputable def E_law19_awake : Env := EB_0_1.adds [(21, S_ref02_Encode), (14, S_emul_Emulate), (13, S_ref16_Same), (16, S_emul_CanEmulate)]

theorem ok_law19_awake : EnvOk E_law19_awake := okEB_0_1.adds (l := _) ⟨(up_to_0_1 c_ref02_Encode), c_emul_Emulate, (up_to_0_1 c_ref16_Same), c_emul_CanEmulate, trivial⟩
theorem t_c_law19_awake : (evF E_law19_awake 60 11 []).inst = .leaf (.b true) := by kernel_rfl
theorem c_law19_awake : SpecOk EB_0_1 11 S_law19_awake := spec_sig ok_law19_awake (n := 60) fun _ _ _ => Tree.of_inst (Q := .of _) (by
  show ((evF E_law19_awake 60 11 []).inst).holds _
  rw [t_c_law19_awake]; exact rfl)


/-! ref16_Few -/

def S_ref16_Few : Spec := sig [.vcpu] [.b] (fun (v, _) => K.vfew v)
noncomputable def E_ref16_Few : Env := EB.adds []

theorem ok_ref16_Few : EnvOk E_ref16_Few := okEB.adds (l := _) trivial

theorem t_ref16_Few (v : PVcpu) : evF E_ref16_Few 60 12 (encArgs [.vcpu] (v, ())) = 
  bif (decide ((Int.ofNat (List.length v.out)) ≤ (600 : Int))) then
    (bif (decide ((Int.ofNat (List.length v.log)) ≤ (600 : Int))) then
      (Tree.leaf (SV.b true))
    else
      (Tree.leaf (SV.b false)))
  else
    (Tree.leaf (SV.b false)) := by kernel_rfl
theorem a_ref16_Few (v : PVcpu) (ok_v : okVcpu v) : (evF E_ref16_Few 60 12 (encArgs [.vcpu] (v, ()))).ends fun out_ => decO [.b] out_ = some (K.vfew v) := by
  rw [t_ref16_Few, Tree.ends_holds]
  simp only [Tree.holds_loop, Tree.holds_next, if_true, Tree.holds_cond, Tree.holds_letv, Tree.holds_leaf, Tree.holds_fail, decO, decA, decTup, decMach, decCore, decTrap, decInstr, decPart, decGuest, decConf, decEvent, decVcpu, bytesS, boolS, eventsS, intsS, guestsS, vcpusS, rowS, castL, Option.bind_some, Option.map_some, Option.some.injEq, Nat.beq_refl, beq_self_eq_true, Bool.and_self, cond_true, cond_false, eq_self, beq_iff_eq, beq_eq_false_iff_ne, bne_iff_ne, bne_eq_false_iff_eq, ne_eq, decide_eq_true_eq, decide_eq_false_iff_not, ble_true, ble_false, inRange_iff, inRange_false]
  repeat' (first | refine drop_ok ?_ | intro _ | with_reducible apply And.intro)
  all_goals (first | omega | (simp_all [K.vfew]; done) | (simp_all [K.vfew] <;> omega) | simp_all [K.vfew])
  
theorem c_ref16_Few : SpecOk EB 12 S_ref16_Few := spec_sig ok_ref16_Few (n := 60) fun ⟨v, ⟨⟩⟩ h hok => a_ref16_Few v (ok_vcpu (okSL_head hok))

/-! ref01_Field -/

def S_ref01_Field : Spec := sig [.i .u32, .i .i64, .i .i64] [.i .u32] (fun (w, at_, n, _) => K.field w at_ n) (pre := fun (w, at_, n, _) => decide (at_ ≤ 63 ∧ n ≤ 63))
noncomputable def E_ref01_Field : Env := EB.adds [(68, S_ref01_Pow)]

theorem ok_ref01_Field : EnvOk E_ref01_Field := okEB.adds (l := _) ⟨c_ref01_Pow, trivial⟩

theorem t_ref01_Field (w : Int) (at_ : Int) (n : Int) : evF E_ref01_Field 60 67 (encArgs [.i .u32, .i .i64, .i .i64] (w, at_, n, ())) = 
  bif (decide (at_ ≤ (63 : Int))) then
    (Tree.letv (okO [(AT.i IntKind.u64)]) (K.pow at_) fun x0 =>
    (bif (bne x0 (0 : Int)) then
      (bif (decide (n ≤ (63 : Int))) then
        (Tree.letv (okO [(AT.i IntKind.u64)]) (K.pow n) fun x1 =>
        (bif (bne x1 (0 : Int)) then
          (Tree.leaf (SV.v (Value.int IntKind.u32 (IntKind.wrap IntKind.u32 (Int.tmod (IntKind.wrap IntKind.u64 (Int.tdiv (IntKind.wrap IntKind.u64 w) x0)) x1)))))
        else
          (Tree.fail)))
      else
        (Tree.fail))
    else
      (Tree.fail)))
  else
    (Tree.fail) := by kernel_rfl
theorem a_ref01_Field (w : Int) (at_ : Int) (n : Int) (hpre : at_ ≤ 63 ∧ n ≤ 63) (ok_w : okI .u32 w) (ok_at_ : okI .i64 at_) (ok_n : okI .i64 n) : (evF E_ref01_Field 60 67 (encArgs [.i .u32, .i .i64, .i .i64] (w, at_, n, ()))).ends fun out_ => decO [.i .u32] out_ = some (K.field w at_ n) := by
  rw [t_ref01_Field, Tree.ends_holds]
  obtain ⟨w0, w1⟩ := okI_u32 ok_w
  have p1 := K.pow_pos at_
  have p2 := K.pow_pos n
  have p3 := K.pow_le hpre.1
  have p4 := K.pow_le hpre.2
  have q1 : w / K.pow at_ ≤ w := Int.ediv_le_self _ w0
  have q0 : 0 ≤ w / K.pow at_ := Int.ediv_nonneg w0 (by omega)
  have q2 := Int.emod_nonneg (w / K.pow at_) (show K.pow n ≠ 0 by omega)
  have q3 : w / K.pow at_ % K.pow n ≤ w / K.pow at_ := emod_le q0 p2
  have e1 : IntKind.u64.wrap w = w := by rw [wrap64]; omega
  have e2 : Int.tdiv w (K.pow at_) = w / K.pow at_ := Int.tdiv_eq_ediv_of_nonneg w0
  have e3 : IntKind.u64.wrap (w / K.pow at_) = w / K.pow at_ := by rw [wrap64]; omega
  have e4 : Int.tmod (w / K.pow at_) (K.pow n) = w / K.pow at_ % K.pow n := Int.tmod_eq_emod_of_nonneg q0
  have e5 : IntKind.u32.wrap (w / K.pow at_ % K.pow n) = w / K.pow at_ % K.pow n := by rw [wrap32]; omega
  simp only [Tree.holds_loop, Tree.holds_next, if_true, Tree.holds_cond, Tree.holds_letv, Tree.holds_leaf, Tree.holds_fail, decO, decA, decTup, decMach, decCore, decTrap, decInstr, decPart, decGuest, decConf, decEvent, decVcpu, bytesS, boolS, eventsS, intsS, guestsS, vcpusS, rowS, castL, Option.bind_some, Option.map_some, Option.some.injEq, Nat.beq_refl, beq_self_eq_true, Bool.and_self, cond_true, cond_false, eq_self, K.field, decide_eq_true hpre.1, decide_eq_true hpre.2, e1, e2, e3, e4, e5]
  have n1 : (K.pow at_ != 0) = true := bne_iff_ne.2 (by omega)
  have n2 : (K.pow n != 0) = true := bne_iff_ne.2 (by omega)
  simp [n1, n2]
  
theorem c_ref01_Field : SpecOk EB 67 S_ref01_Field := spec_sig ok_ref01_Field (n := 60) fun ⟨w, at_, n, ⟨⟩⟩ h hok => a_ref01_Field w at_ n (of_decide_eq_true h) (ok_int (okSL_head hok)) (ok_int (okSL_head (okSL_tail hok))) (ok_int (okSL_head (okSL_tail (okSL_tail hok))))

/-! ref01_Sign -/

def S_ref01_Sign : Spec := sig [.i .u32, .i .i64] [.i .i32] (fun (v, n, _) => K.sext v) (pre := fun (v, n, _) => decide (n = 18))
noncomputable def E_ref01_Sign : Env := EB.adds [(67, S_ref01_Field), (68, S_ref01_Pow)]

theorem ok_ref01_Sign : EnvOk E_ref01_Sign := okEB.adds (l := _) ⟨c_ref01_Field, c_ref01_Pow, trivial⟩

theorem t_ref01_Sign (v : Int) (n : Int) : evF E_ref01_Sign 60 43 (encArgs [.i .u32, .i .i64] (v, n, ())) = 
  bif (decide (And ((0 : Int) ≤ (63 : Int)) (n ≤ (63 : Int)))) then
    (Tree.letv (okO [(AT.i IntKind.u32)]) (K.field v (0 : Int) n) fun x0 =>
    (bif (decide ((IntKind.wrap IntKind.i64 (n - (1 : Int))) ≤ (63 : Int))) then
      (Tree.letv (okO [(AT.i IntKind.u64)]) (K.pow (IntKind.wrap IntKind.i64 (n - (1 : Int)))) fun x1 =>
      (bif (decide ((IntKind.wrap IntKind.i64 x0) ≥ (IntKind.wrap IntKind.i64 x1))) then
        (bif (decide (n ≤ (63 : Int))) then
          (Tree.letv (okO [(AT.i IntKind.u64)]) (K.pow n) fun x2 =>
          (Tree.leaf (SV.v (Value.int IntKind.i32 (IntKind.wrap IntKind.i32 (IntKind.wrap IntKind.i64 ((IntKind.wrap IntKind.i64 x0) - (IntKind.wrap IntKind.i64 x2))))))))
        else
          (Tree.fail))
      else
        (Tree.leaf (SV.v (Value.int IntKind.i32 (IntKind.wrap IntKind.i32 (IntKind.wrap IntKind.i64 x0)))))))
    else
      (Tree.fail)))
  else
    (Tree.fail) := by kernel_rfl
theorem a_ref01_Sign (v : Int) (n : Int) (hpre : n = 18) (ok_v : okI .u32 v) (ok_n : okI .i64 n) : (evF E_ref01_Sign 60 43 (encArgs [.i .u32, .i .i64] (v, n, ()))).ends fun out_ => decO [.i .i32] out_ = some (K.sext v) := by
  rw [t_ref01_Sign, Tree.ends_holds]
  obtain ⟨v0, v1⟩ := okI_u32 ok_v
  subst hpre
  have e1 : K.field v 0 18 = v % 262144 := by simp [K.field, K.pow]
  have e2 : IntKind.i64.wrap (v % 262144) = v % 262144 := wrapI64 (by omega) (by omega)
  have e3 : IntKind.i64.wrap (K.pow (IntKind.i64.wrap (18 - 1))) = 131072 := by decide
  have e4 : IntKind.i64.wrap (K.pow 18) = 262144 := by decide
  have e5 : decide (IntKind.i64.wrap (18 - 1) ≤ 63) = true := by decide
  have e6 : IntKind.i64.wrap (v % 262144 - 262144) = v % 262144 - 262144 := wrapI64 (by omega) (by omega)
  have e7 : IntKind.i32.wrap (v % 262144) = v % 262144 := wrapI32 (by omega) (by omega)
  have e8 : IntKind.i32.wrap (v % 262144 - 262144) = v % 262144 - 262144 := wrapI32 (by omega) (by omega)
  simp only [Tree.holds_loop, Tree.holds_next, if_true, Tree.holds_cond, Tree.holds_letv, Tree.holds_leaf, Tree.holds_fail, decO, decA, decTup, decMach, decCore, decTrap, decInstr, decPart, decGuest, decConf, decEvent, decVcpu, bytesS, boolS, eventsS, intsS, guestsS, vcpusS, rowS, castL, Option.bind_some, Option.map_some, Option.some.injEq, Nat.beq_refl, beq_self_eq_true, Bool.and_self, cond_true, cond_false, eq_self, beq_iff_eq, beq_eq_false_iff_ne, bne_iff_ne, bne_eq_false_iff_eq, ne_eq, decide_eq_true_eq, decide_eq_false_iff_not, ble_true, ble_false, inRange_iff, inRange_false, e1, e2, e3, e4, e5, e6, e7, e8, K.sext]
  repeat' (first | refine drop_ok ?_ | intro _ | with_reducible apply And.intro)
  all_goals first | omega | (simp_all; done) | (simp_all; omega)
  
theorem c_ref01_Sign : SpecOk EB 43 S_ref01_Sign := spec_sig ok_ref01_Sign (n := 60) fun ⟨v, n, ⟨⟩⟩ h hok => a_ref01_Sign v n (of_decide_eq_true h) (ok_int (okSL_head hok)) (ok_int (okSL_head (okSL_tail hok)))

/-! ref02_Decode -/

def S_ref02_Decode : Spec := sig [.i .u32] [.instr, .b] (fun (w, _) => K.decode w)
noncomputable def E_ref02_Decode : Env := EB.adds [(42, S_ref02_Form), (43, S_ref01_Sign), (21, S_ref02_Encode)]

theorem ok_ref02_Decode : EnvOk E_ref02_Decode := okEB.adds (l := _) ⟨c_ref02_Form, c_ref01_Sign, c_ref02_Encode, trivial⟩

theorem t_ref02_Decode (w : Int) : evF E_ref02_Decode 60 19 (encArgs [.i .u32] (w, ())) = 
  Tree.letv (okO [(AT.i IntKind.i64)]) (K.form (IntKind.wrap IntKind.i64 (IntKind.wrap IntKind.u32 (Int.tdiv w (67108864 : Int))))) fun x0 =>
  (bif (BEq.beq x0 (1 : Int)) then
    (Tree.letv (okO [(AT.i IntKind.u32), AT.b]) (K.encode (PInstr.mk (IntKind.wrap IntKind.i64 (IntKind.wrap IntKind.u32 (Int.tdiv w (67108864 : Int)))) (IntKind.wrap IntKind.i64 (Int.tmod (IntKind.wrap IntKind.u32 (Int.tdiv w (4194304 : Int))) (16 : Int))) (IntKind.wrap IntKind.i64 (Int.tmod (IntKind.wrap IntKind.u32 (Int.tdiv w (262144 : Int))) (16 : Int))) (IntKind.wrap IntKind.i64 (Int.tmod w (16 : Int))) (0 : Int))) fun x1 =>
    (bif x1.snd then
      (bif (bne x1.fst w) then
        (Tree.leaf (SV.tup [(SV.agg [(SV.v (Value.int IntKind.i64 (0 : Int))), (SV.v (Value.int IntKind.i64 (0 : Int))), (SV.v (Value.int IntKind.i64 (0 : Int))), (SV.v (Value.int IntKind.i64 (0 : Int))), (SV.v (Value.int IntKind.i32 (0 : Int)))]), (SV.b false)]))
      else
        (Tree.leaf (SV.tup [(SV.agg [(SV.v (Value.int IntKind.i64 (IntKind.wrap IntKind.i64 (IntKind.wrap IntKind.u32 (Int.tdiv w (67108864 : Int)))))), (SV.v (Value.int IntKind.i64 (IntKind.wrap IntKind.i64 (Int.tmod (IntKind.wrap IntKind.u32 (Int.tdiv w (4194304 : Int))) (16 : Int))))), (SV.v (Value.int IntKind.i64 (IntKind.wrap IntKind.i64 (Int.tmod (IntKind.wrap IntKind.u32 (Int.tdiv w (262144 : Int))) (16 : Int))))), (SV.v (Value.int IntKind.i64 (IntKind.wrap IntKind.i64 (Int.tmod w (16 : Int))))), (SV.v (Value.int IntKind.i32 (0 : Int)))]), (SV.b true)])))
    else
      (Tree.leaf (SV.tup [(SV.agg [(SV.v (Value.int IntKind.i64 (0 : Int))), (SV.v (Value.int IntKind.i64 (0 : Int))), (SV.v (Value.int IntKind.i64 (0 : Int))), (SV.v (Value.int IntKind.i64 (0 : Int))), (SV.v (Value.int IntKind.i32 (0 : Int)))]), (SV.b false)]))))
  else
    (Tree.letv (okO [(AT.i IntKind.i32)]) (K.sext w) fun x1 =>
    (Tree.letv (okO [(AT.i IntKind.u32), AT.b]) (K.encode (PInstr.mk (IntKind.wrap IntKind.i64 (IntKind.wrap IntKind.u32 (Int.tdiv w (67108864 : Int)))) (IntKind.wrap IntKind.i64 (Int.tmod (IntKind.wrap IntKind.u32 (Int.tdiv w (4194304 : Int))) (16 : Int))) (IntKind.wrap IntKind.i64 (Int.tmod (IntKind.wrap IntKind.u32 (Int.tdiv w (262144 : Int))) (16 : Int))) (0 : Int) x1)) fun x2 =>
    (bif x2.snd then
      (bif (bne x2.fst w) then
        (Tree.leaf (SV.tup [(SV.agg [(SV.v (Value.int IntKind.i64 (0 : Int))), (SV.v (Value.int IntKind.i64 (0 : Int))), (SV.v (Value.int IntKind.i64 (0 : Int))), (SV.v (Value.int IntKind.i64 (0 : Int))), (SV.v (Value.int IntKind.i32 (0 : Int)))]), (SV.b false)]))
      else
        (Tree.leaf (SV.tup [(SV.agg [(SV.v (Value.int IntKind.i64 (IntKind.wrap IntKind.i64 (IntKind.wrap IntKind.u32 (Int.tdiv w (67108864 : Int)))))), (SV.v (Value.int IntKind.i64 (IntKind.wrap IntKind.i64 (Int.tmod (IntKind.wrap IntKind.u32 (Int.tdiv w (4194304 : Int))) (16 : Int))))), (SV.v (Value.int IntKind.i64 (IntKind.wrap IntKind.i64 (Int.tmod (IntKind.wrap IntKind.u32 (Int.tdiv w (262144 : Int))) (16 : Int))))), (SV.v (Value.int IntKind.i64 (0 : Int))), (SV.v (Value.int IntKind.i32 x1))]), (SV.b true)])))
    else
      (Tree.leaf (SV.tup [(SV.agg [(SV.v (Value.int IntKind.i64 (0 : Int))), (SV.v (Value.int IntKind.i64 (0 : Int))), (SV.v (Value.int IntKind.i64 (0 : Int))), (SV.v (Value.int IntKind.i64 (0 : Int))), (SV.v (Value.int IntKind.i32 (0 : Int)))]), (SV.b false)])))))) := by kernel_rfl
theorem a_ref02_Decode (w : Int) (ok_w : okI .u32 w) : (evF E_ref02_Decode 60 19 (encArgs [.i .u32] (w, ()))).ends fun out_ => decO [.instr, .b] out_ = some (K.decode w) := by
  rw [t_ref02_Decode, Tree.ends_holds]
  obtain ⟨w0, w1⟩ := okI_u32 ok_w
  have t1 : IntKind.u32.wrap (Int.tdiv w 67108864) = w / 67108864 := by rw [Int.tdiv_eq_ediv_of_nonneg w0, wrap32]; omega
  have t2 : Int.tmod (IntKind.u32.wrap (Int.tdiv w 4194304)) 16 = w / 4194304 % 16 := by rw [Int.tdiv_eq_ediv_of_nonneg w0, wrap32, Int.tmod_eq_emod_of_nonneg (by omega)]; omega
  have t3 : Int.tmod (IntKind.u32.wrap (Int.tdiv w 262144)) 16 = w / 262144 % 16 := by rw [Int.tdiv_eq_ediv_of_nonneg w0, wrap32, Int.tmod_eq_emod_of_nonneg (by omega)]; omega
  have t4 : Int.tmod w 16 = w % 16 := Int.tmod_eq_emod_of_nonneg w0
  have i1 : IntKind.i64.wrap (w / 67108864) = w / 67108864 := wrapI64 (by omega) (by omega)
  have i2 : IntKind.i64.wrap (w / 4194304 % 16) = w / 4194304 % 16 := wrapI64 (by omega) (by omega)
  have i3 : IntKind.i64.wrap (w / 262144 % 16) = w / 262144 % 16 := wrapI64 (by omega) (by omega)
  have i4 : IntKind.i64.wrap (w % 16) = w % 16 := wrapI64 (by omega) (by omega)
  have g1 : K.form (w / 67108864) = 1 → (⟨w / 67108864, w / 4194304 % 16, w / 262144 % 16, w % 16, 0⟩ : PInstr) = K.splitW w := fun h => by simp [K.splitW, h]
  have g2 : K.form (w / 67108864) ≠ 1 → (⟨w / 67108864, w / 4194304 % 16, w / 262144 % 16, 0, K.sext w⟩ : PInstr) = K.splitW w := fun h => by simp [K.splitW, h]
  have d1 : (K.encode (K.splitW w)).2 = true → (K.encode (K.splitW w)).1 = w → K.decode w = (K.splitW w, true) := fun h1 h2 => by
    unfold K.encode at h1 h2
    by_cases hm : K.may (K.splitW w) = true
    · rw [if_pos hm] at h2; unfold K.decode; rw [if_pos ⟨hm, h2⟩]
    · rw [if_neg hm] at h1; simp at h1
  have d2 : ¬ ((K.encode (K.splitW w)).2 = true ∧ (K.encode (K.splitW w)).1 = w) → K.decode w = (⟨0, 0, 0, 0, 0⟩, false) := fun h => by
    unfold K.encode at h
    unfold K.decode
    rw [if_neg]
    rintro ⟨h1, h2⟩
    rw [if_pos h1] at h; exact h ⟨rfl, h2⟩
  simp only [Tree.holds_loop, Tree.holds_next, if_true, Tree.holds_cond, Tree.holds_letv, Tree.holds_leaf, Tree.holds_fail, decO, decA, decTup, decMach, decCore, decTrap, decInstr, decPart, decGuest, decConf, decEvent, decVcpu, bytesS, boolS, eventsS, intsS, guestsS, vcpusS, rowS, castL, Option.bind_some, Option.map_some, Option.some.injEq, Nat.beq_refl, beq_self_eq_true, Bool.and_self, cond_true, cond_false, eq_self, beq_iff_eq, beq_eq_false_iff_ne, bne_iff_ne, bne_eq_false_iff_eq, ne_eq, decide_eq_true_eq, decide_eq_false_iff_not, ble_true, ble_false, inRange_iff, inRange_false, t1, t2, t3, t4, i1, i2, i3, i4]
  have fin : ∀ i, i = K.splitW w → (okO [AT.i IntKind.u32, AT.b] (K.encode i) → ((K.encode i).2 = true → (¬ (K.encode i).1 = w → ((⟨0, 0, 0, 0, 0⟩ : PInstr), false) = K.decode w) ∧ ((K.encode i).1 = w → (i, true) = K.decode w)) ∧ ((K.encode i).2 = false → ((⟨0, 0, 0, 0, 0⟩ : PInstr), false) = K.decode w)) := fun i hi _ => by
    subst hi
    exact ⟨fun a => ⟨fun b => (d2 fun c => b c.2).symm, fun b => (d1 a b).symm⟩, fun a => (d2 fun c => by rw [a] at c; exact absurd c.1 (by simp)).symm⟩
  clear d1 d2 t1 t2 t3 t4 i1 i2 i3 i4
  intro _
  by_cases hf : K.form (w / 67108864) = 1
  · simp only [hf]; simp; first | simpa using fin _ (g1 hf) | exact fun _ => by simpa using fin _ (g1 hf)
  · simp only [hf]; simp; first | simpa using fin _ (g2 hf) | exact fun _ => by simpa using fin _ (g2 hf)
  
theorem c_ref02_Decode : SpecOk EB 19 S_ref02_Decode := spec_sig ok_ref02_Decode (n := 60) fun ⟨w, ⟨⟩⟩ h hok => a_ref02_Decode w (ok_int (okSL_head hok))

/-! ref02_Privileged -/

def S_ref02_Privileged : Spec := sig [.i .i64] [.b] (fun (op, _) => K.privd op)
noncomputable def E_ref02_Privileged : Env := EB.adds []

theorem ok_ref02_Privileged : EnvOk E_ref02_Privileged := okEB.adds (l := _) trivial

theorem t_ref02_Privileged (op : Int) : evF E_ref02_Privileged 60 20 (encArgs [.i .i64] (op, ())) = 
  bif (BEq.beq op (21 : Int)) then
    (Tree.leaf (SV.b true))
  else
    (bif (BEq.beq op (22 : Int)) then
      (Tree.leaf (SV.b true))
    else
      (bif (BEq.beq op (23 : Int)) then
        (Tree.leaf (SV.b true))
      else
        (bif (BEq.beq op (24 : Int)) then
          (Tree.leaf (SV.b true))
        else
          (bif (BEq.beq op (25 : Int)) then
            (Tree.leaf (SV.b true))
          else
            (Tree.leaf (SV.b false)))))) := by kernel_rfl
theorem a_ref02_Privileged (op : Int) (ok_op : okI .i64 op) : (evF E_ref02_Privileged 60 20 (encArgs [.i .i64] (op, ()))).ends fun out_ => decO [.b] out_ = some (K.privd op) := by
  rw [t_ref02_Privileged, Tree.ends_holds]
  simp only [Tree.holds_loop, Tree.holds_next, if_true, Tree.holds_cond, Tree.holds_letv, Tree.holds_leaf, Tree.holds_fail, decO, decA, decTup, decMach, decCore, decTrap, decInstr, decPart, decGuest, decConf, decEvent, decVcpu, bytesS, boolS, eventsS, intsS, guestsS, vcpusS, rowS, castL, Option.bind_some, Option.map_some, Option.some.injEq, Nat.beq_refl, beq_self_eq_true, Bool.and_self, cond_true, cond_false, eq_self, beq_iff_eq, beq_eq_false_iff_ne, bne_iff_ne, bne_eq_false_iff_eq, ne_eq, decide_eq_true_eq, decide_eq_false_iff_not, ble_true, ble_false, inRange_iff, inRange_false, K.privd]
  repeat' (first | refine drop_ok ?_ | intro _ | with_reducible apply And.intro)
  all_goals first | (subst_vars; rfl) | (have : ¬ (21 ≤ op ∧ op ≤ 25) := by omega
                                         by_cases h : 21 ≤ op <;> simp <;> omega)
  
theorem c_ref02_Privileged : SpecOk EB 20 S_ref02_Privileged := spec_sig ok_ref02_Privileged (n := 60) fun ⟨op, ⟨⟩⟩ h hok => a_ref02_Privileged op (ok_int (okSL_head hok))

/-! law19_EmulateSequence -/
@[reducible] def L_law19_Seq (v : PVcpu) (words : List Int) (time : Int) : LoopSpec where
  σ := Nat
  slots := [1, 2, 3, 7, 8, 9]
  keys := [3, 7]
  vals := fun j => [.rd .u32 words, .v (.int .u64 time), .loc 0 0 0 1, .loc 1 0 0 1, .v (.int .i64 (K.cnt words j)), .v (.int .i64 (j : Int))]
  blks := fun j => [.cells (vcpuC v) 30, .cells (vcpuC (K.emuSeq v words time j)) 30]
  inv := fun j => j ≤ words.length
  mu := fun j => words.length - j
def S_law19_EmulateSequence : Spec := sig [.vcpu, .rd .u32, .i .u64] [.b] (fun (v, words, time, _) => true)
noncomputable def E_law19_EmulateSequence : Env := EB_0_1.adds [(11, S_law19_awake), (12, S_ref16_Few), (19, S_ref02_Decode), (20, S_ref02_Privileged), (14, S_emul_Emulate), (21, S_ref02_Encode)]

theorem ok_law19_EmulateSequence : EnvOk E_law19_EmulateSequence := okEB_0_1.adds (l := _) ⟨c_law19_awake, (up_to_0_1 c_ref16_Few), (up_to_0_1 c_ref02_Decode), (up_to_0_1 c_ref02_Privileged), c_emul_Emulate, (up_to_0_1 c_ref02_Encode), trivial⟩

theorem t_law19_EmulateSequence (v : PVcpu) (words : List Int) (time : Int) : evFL E_law19_EmulateSequence (fun _ => some (L_law19_Seq v words time)) 60 5 (encArgs [.vcpu, .rd .u32, .i .u64] (v, words, time, ())) = 
  Tree.letv (okO [AT.b]) true fun x0 =>
  (bif x0 then
    (Tree.letv (okO [AT.b]) (K.vfew v) fun x1 =>
    (bif x1 then
      (bif (decide ((Int.ofNat (List.length words)) > (30 : Int))) then
        (Tree.letv (okO [AT.b]) true fun x2 =>
        (bif x2 then
          (Tree.leaf (SV.b true))
        else
          (Tree.leaf (SV.b false))))
      else
        (bif (decide (v.done > (1099511627776 : Int))) then
          (Tree.letv (okO [AT.b]) true fun x2 =>
          (bif x2 then
            (Tree.leaf (SV.b true))
          else
            (Tree.leaf (SV.b false))))
        else
          (Tree.loop 0 (L_law19_Seq v words time) [(SV.rd ETy.u32 words), (SV.v (Value.int IntKind.u64 time)), (SV.loc 0 0 0 1), (SV.loc 1 0 0 1), (SV.v (Value.int IntKind.i64 (0 : Int))), (SV.v (Value.int IntKind.i64 (0 : Int)))] [(Blk.cells [(SV.arr IntKind.u32 16 v.core.regs), (SV.v (Value.int IntKind.u32 v.core.pc)), (SV.arr IntKind.u32 12 v.core.csr), (SV.rd ETy.u8 v.out), (SV.v (Value.bool v.halted)), (SV.v (Value.int IntKind.i64 v.done)), (SV.rd ETy.event v.log)] 30), (Blk.cells [(SV.arr IntKind.u32 16 v.core.regs), (SV.v (Value.int IntKind.u32 v.core.pc)), (SV.arr IntKind.u32 12 v.core.csr), (SV.rd ETy.u8 v.out), (SV.v (Value.bool v.halted)), (SV.v (Value.int IntKind.i64 v.done)), (SV.rd ETy.event v.log)] 30)] fun (x2 : Nat) =>
          (bif (decide ((Int.ofNat x2) < (Int.ofNat (List.length words)))) then
            (bif (inRange (Int.ofNat x2) (List.length words)) then
              (Tree.letv (okO [AT.instr, AT.b]) (K.decode (List.getD words (Int.toNat (Int.ofNat x2)) (0 : Int))) fun x3 =>
              (bif x3.snd then
                (Tree.letv (okO [AT.b]) (K.privd x3.fst.op) fun x4 =>
                (bif x4 then
                  (bif (inRange (Int.ofNat x2) (List.length words)) then
                    (bif (decide (And ((List.length (K.emuSeq v words time x2).out) ≤ 1099511627776) ((List.length (K.emuSeq v words time x2).log) ≤ 1099511627776))) then
                      (Tree.letv (okO [AT.vcpu]) (K.emu (K.emuSeq v words time x2) (List.getD words (Int.toNat (Int.ofNat x2)) (0 : Int)) time) fun x5 =>
                      ((Tree.next 0 [(SV.rd ETy.u32 words), (SV.v (Value.int IntKind.u64 time)), (SV.loc 0 0 0 1), (SV.loc 1 0 0 1), (SV.v (Value.int IntKind.i64 (IntKind.wrap IntKind.i64 ((K.cnt words x2) + (1 : Int))))), (SV.v (Value.int IntKind.i64 (IntKind.wrap IntKind.i64 ((Int.ofNat x2) + (1 : Int)))))] [(Blk.cells [(SV.arr IntKind.u32 16 v.core.regs), (SV.v (Value.int IntKind.u32 v.core.pc)), (SV.arr IntKind.u32 12 v.core.csr), (SV.rd ETy.u8 v.out), (SV.v (Value.bool v.halted)), (SV.v (Value.int IntKind.i64 v.done)), (SV.rd ETy.event v.log)] 30), (Blk.cells [(SV.arr IntKind.u32 16 x5.core.regs), (SV.v (Value.int IntKind.u32 x5.core.pc)), (SV.arr IntKind.u32 12 x5.core.csr), (SV.rd ETy.u8 x5.out), (SV.v (Value.bool x5.halted)), (SV.v (Value.int IntKind.i64 x5.done)), (SV.rd ETy.event x5.log)] 30)])))
                    else
                      (Tree.fail))
                  else
                    (Tree.fail))
                else
                  (bif (inRange (Int.ofNat x2) (List.length words)) then
                    (bif (decide (And ((List.length (K.emuSeq v words time x2).out) ≤ 1099511627776) ((List.length (K.emuSeq v words time x2).log) ≤ 1099511627776))) then
                      (Tree.letv (okO [AT.vcpu]) (K.emu (K.emuSeq v words time x2) (List.getD words (Int.toNat (Int.ofNat x2)) (0 : Int)) time) fun x5 =>
                      ((Tree.next 0 [(SV.rd ETy.u32 words), (SV.v (Value.int IntKind.u64 time)), (SV.loc 0 0 0 1), (SV.loc 1 0 0 1), (SV.v (Value.int IntKind.i64 (K.cnt words x2))), (SV.v (Value.int IntKind.i64 (IntKind.wrap IntKind.i64 ((Int.ofNat x2) + (1 : Int)))))] [(Blk.cells [(SV.arr IntKind.u32 16 v.core.regs), (SV.v (Value.int IntKind.u32 v.core.pc)), (SV.arr IntKind.u32 12 v.core.csr), (SV.rd ETy.u8 v.out), (SV.v (Value.bool v.halted)), (SV.v (Value.int IntKind.i64 v.done)), (SV.rd ETy.event v.log)] 30), (Blk.cells [(SV.arr IntKind.u32 16 x5.core.regs), (SV.v (Value.int IntKind.u32 x5.core.pc)), (SV.arr IntKind.u32 12 x5.core.csr), (SV.rd ETy.u8 x5.out), (SV.v (Value.bool x5.halted)), (SV.v (Value.int IntKind.i64 x5.done)), (SV.rd ETy.event x5.log)] 30)])))
                    else
                      (Tree.fail))
                  else
                    (Tree.fail))))
              else
                (bif (inRange (Int.ofNat x2) (List.length words)) then
                  (bif (decide (And ((List.length (K.emuSeq v words time x2).out) ≤ 1099511627776) ((List.length (K.emuSeq v words time x2).log) ≤ 1099511627776))) then
                    (Tree.letv (okO [AT.vcpu]) (K.emu (K.emuSeq v words time x2) (List.getD words (Int.toNat (Int.ofNat x2)) (0 : Int)) time) fun x4 =>
                    ((Tree.next 0 [(SV.rd ETy.u32 words), (SV.v (Value.int IntKind.u64 time)), (SV.loc 0 0 0 1), (SV.loc 1 0 0 1), (SV.v (Value.int IntKind.i64 (K.cnt words x2))), (SV.v (Value.int IntKind.i64 (IntKind.wrap IntKind.i64 ((Int.ofNat x2) + (1 : Int)))))] [(Blk.cells [(SV.arr IntKind.u32 16 v.core.regs), (SV.v (Value.int IntKind.u32 v.core.pc)), (SV.arr IntKind.u32 12 v.core.csr), (SV.rd ETy.u8 v.out), (SV.v (Value.bool v.halted)), (SV.v (Value.int IntKind.i64 v.done)), (SV.rd ETy.event v.log)] 30), (Blk.cells [(SV.arr IntKind.u32 16 x4.core.regs), (SV.v (Value.int IntKind.u32 x4.core.pc)), (SV.arr IntKind.u32 12 x4.core.csr), (SV.rd ETy.u8 x4.out), (SV.v (Value.bool x4.halted)), (SV.v (Value.int IntKind.i64 x4.done)), (SV.rd ETy.event x4.log)] 30)])))
                  else
                    (Tree.fail))
                else
                  (Tree.fail))))
            else
              (Tree.fail))
          else
            (Tree.letv (okO [(AT.i IntKind.u32), AT.b]) (K.encode (PInstr.mk (22 : Int) (0 : Int) (5 : Int) (0 : Int) (11 : Int))) fun x3 =>
            (bif x3.snd then
              (Tree.letv (okO [(AT.i IntKind.u32), AT.b]) (K.encode (PInstr.mk (21 : Int) (6 : Int) (0 : Int) (0 : Int) (11 : Int))) fun x4 =>
              (bif x4.snd then
                (bif (decide (And ((List.length v.out) ≤ 1099511627776) ((List.length v.log) ≤ 1099511627776))) then
                  (Tree.letv (okO [AT.vcpu]) (K.emu v x3.fst time) fun x5 =>
                  (bif (decide (And ((List.length x5.out) ≤ 1099511627776) ((List.length x5.log) ≤ 1099511627776))) then
                    (Tree.letv (okO [AT.vcpu]) (K.emu x5 x4.fst time) fun x6 =>
                    (bif (BEq.beq (K.emuSeq v words time x2).done (IntKind.wrap IntKind.i64 (v.done + (K.cnt words x2)))) then
                      (bif (decide ((Int.ofNat (List.length (K.emuSeq v words time x2).out)) ≥ (Int.ofNat (List.length v.out)))) then
                        (bif (BEq.beq (List.getD x6.core.regs 6 (0 : Int)) (List.getD v.core.regs 5 (0 : Int))) then
                          (bif (BEq.beq x6.core.pc (IntKind.wrap IntKind.u32 (v.core.pc + (8 : Int)))) then
                            (Tree.leaf (SV.b true))
                          else
                            (Tree.leaf (SV.b false)))
                        else
                          (Tree.leaf (SV.b false)))
                      else
                        (Tree.leaf (SV.b false)))
                    else
                      (Tree.leaf (SV.b false))))
                  else
                    (Tree.fail)))
                else
                  (Tree.fail))
              else
                (bif (decide (And ((List.length v.out) ≤ 1099511627776) ((List.length v.log) ≤ 1099511627776))) then
                  (Tree.letv (okO [AT.vcpu]) (K.emu v x3.fst time) fun x5 =>
                  (bif (decide (And ((List.length x5.out) ≤ 1099511627776) ((List.length x5.log) ≤ 1099511627776))) then
                    (Tree.letv (okO [AT.vcpu]) (K.emu x5 x4.fst time) fun x6 =>
                    (bif (BEq.beq (K.emuSeq v words time x2).done (IntKind.wrap IntKind.i64 (v.done + (K.cnt words x2)))) then
                      (bif (decide ((Int.ofNat (List.length (K.emuSeq v words time x2).out)) ≥ (Int.ofNat (List.length v.out)))) then
                        (bif (BEq.beq (List.getD x6.core.regs 6 (0 : Int)) (List.getD v.core.regs 5 (0 : Int))) then
                          (bif (BEq.beq x6.core.pc (IntKind.wrap IntKind.u32 (v.core.pc + (8 : Int)))) then
                            (Tree.leaf (SV.b true))
                          else
                            (Tree.leaf (SV.b false)))
                        else
                          (Tree.leaf (SV.b false)))
                      else
                        (Tree.leaf (SV.b false)))
                    else
                      (Tree.leaf (SV.b false))))
                  else
                    (Tree.fail)))
                else
                  (Tree.fail))))
            else
              (Tree.letv (okO [(AT.i IntKind.u32), AT.b]) (K.encode (PInstr.mk (21 : Int) (6 : Int) (0 : Int) (0 : Int) (11 : Int))) fun x4 =>
              (bif x4.snd then
                (bif (decide (And ((List.length v.out) ≤ 1099511627776) ((List.length v.log) ≤ 1099511627776))) then
                  (Tree.letv (okO [AT.vcpu]) (K.emu v x3.fst time) fun x5 =>
                  (bif (decide (And ((List.length x5.out) ≤ 1099511627776) ((List.length x5.log) ≤ 1099511627776))) then
                    (Tree.letv (okO [AT.vcpu]) (K.emu x5 x4.fst time) fun x6 =>
                    (bif (BEq.beq (K.emuSeq v words time x2).done (IntKind.wrap IntKind.i64 (v.done + (K.cnt words x2)))) then
                      (bif (decide ((Int.ofNat (List.length (K.emuSeq v words time x2).out)) ≥ (Int.ofNat (List.length v.out)))) then
                        (bif (BEq.beq (List.getD x6.core.regs 6 (0 : Int)) (List.getD v.core.regs 5 (0 : Int))) then
                          (bif (BEq.beq x6.core.pc (IntKind.wrap IntKind.u32 (v.core.pc + (8 : Int)))) then
                            (Tree.leaf (SV.b true))
                          else
                            (Tree.leaf (SV.b false)))
                        else
                          (Tree.leaf (SV.b false)))
                      else
                        (Tree.leaf (SV.b false)))
                    else
                      (Tree.leaf (SV.b false))))
                  else
                    (Tree.fail)))
                else
                  (Tree.fail))
              else
                (bif (decide (And ((List.length v.out) ≤ 1099511627776) ((List.length v.log) ≤ 1099511627776))) then
                  (Tree.letv (okO [AT.vcpu]) (K.emu v x3.fst time) fun x5 =>
                  (bif (decide (And ((List.length x5.out) ≤ 1099511627776) ((List.length x5.log) ≤ 1099511627776))) then
                    (Tree.letv (okO [AT.vcpu]) (K.emu x5 x4.fst time) fun x6 =>
                    (bif (BEq.beq (K.emuSeq v words time x2).done (IntKind.wrap IntKind.i64 (v.done + (K.cnt words x2)))) then
                      (bif (decide ((Int.ofNat (List.length (K.emuSeq v words time x2).out)) ≥ (Int.ofNat (List.length v.out)))) then
                        (bif (BEq.beq (List.getD x6.core.regs 6 (0 : Int)) (List.getD v.core.regs 5 (0 : Int))) then
                          (bif (BEq.beq x6.core.pc (IntKind.wrap IntKind.u32 (v.core.pc + (8 : Int)))) then
                            (Tree.leaf (SV.b true))
                          else
                            (Tree.leaf (SV.b false)))
                        else
                          (Tree.leaf (SV.b false)))
                      else
                        (Tree.leaf (SV.b false)))
                    else
                      (Tree.leaf (SV.b false))))
                  else
                    (Tree.fail)))
                else
                  (Tree.fail))))))))))
    else
      (Tree.letv (okO [AT.b]) true fun x2 =>
      (bif x2 then
        (Tree.leaf (SV.b true))
      else
        (Tree.leaf (SV.b false))))))
  else
    (Tree.letv (okO [AT.b]) true fun x1 =>
    (bif x1 then
      (Tree.leaf (SV.b true))
    else
      (Tree.leaf (SV.b false))))) := by kernel_rfl
theorem a_law19_EmulateSequence (v : PVcpu) (words : List Int) (time : Int) (ok_v : okVcpu v) (ok_words : okS (encA (.rd .u32) words)) (ok_time : okI .u64 time) : (evFL E_law19_EmulateSequence (fun _ => some (L_law19_Seq v words time)) 60 5 (encArgs [.vcpu, .rd .u32, .i .u64] (v, words, time, ()))).ends fun out_ => decO [.b] out_ = some (true) := by
  rw [t_law19_EmulateSequence, Tree.ends_holds]
  simp only [Tree.holds_letv, Tree.holds_cond, Tree.holds_leaf, beq_iff_eq, beq_eq_false_iff_ne, bne_iff_ne, bne_eq_false_iff_eq, ne_eq, decide_eq_true_eq, decide_eq_false_iff_not, ble_true, ble_false, inRange_iff, inRange_false]
  repeat' (first | refine drop_ok ?_ | intro _ | with_reducible apply And.intro)
  any_goals first | rfl | contradiction
  rename_i hf hl hd
  have hf : v.out.length ≤ 600 ∧ v.log.length ≤ 600 := by simpa only [K.vfew, Bool.and_eq_true, decide_eq_true_eq] using hf
  have hl : words.length ≤ 30 := by
    have : ¬ ((words.length : Int) > 30) := hl
    omega
  have hd : v.done ≤ 1099511627776 := by omega
  obtain ⟨d0, d1⟩ := okI_i64 ok_v.done
  obtain ⟨p0, p1⟩ := okI_u32 ok_v.core.pc
  obtain ⟨b1, b2⟩ := scratch_law ok_v time
  simp only [Tree.holds_loop]
  refine ⟨⟨(0 : Nat), rfl, rfl, Nat.zero_le _, trivial⟩, fun (j : Nat) (hj : j ≤ words.length) => ?_⟩
  obtain ⟨q1, q2, q3, q4⟩ := seq_facts v words time d0 hd j (by omega)
  have hc := cnt_range words j
  have e4 : 0 ≤ (j : Int) ∧ (j : Int) < words.length → IntKind.i64.wrap ((j : Int) + 1) = ((j + 1 : Nat) : Int) := fun h => by rw [wrapI64 (by omega) (by omega)]; rfl
  have e5 : IntKind.i64.wrap (K.cnt words j + 1) = K.cnt words j + 1 := wrapI64 (by omega) (by omega)
  have e6 : IntKind.i64.wrap (v.done + K.cnt words j) = v.done + K.cnt words j := wrapI64 (by omega) (by omega)
  have e7 : IntKind.u32.wrap (v.core.pc + 8) = ((v.core.pc + 4) % 4294967296 + 4) % 4294967296 := by rw [wrap32]; omega
  have nx : ∀ c, c = K.cnt words (j + 1) → 0 ≤ (j : Int) ∧ (j : Int) < words.length → (L_law19_Seq v words time).at (fun y => words.length - y < words.length - j) [.rd .u32 words, .v (.int .u64 time), .loc 0 0 0 1, .loc 1 0 0 1, .v (.int .i64 c), .v (.int .i64 (IntKind.i64.wrap ((j : Int) + 1)))] [.cells (vcpuC v) 30, .cells (vcpuC (K.emuSeq v words time (j + 1))) 30] := fun c hcc h => by
    refine ⟨j + 1, by rw [hcc, e4 h], rfl, by omega, by show words.length - (j + 1) < words.length - j; omega⟩
  have c1 : (K.decode (words.getD j 0)).2 = true → K.privd (K.decode (words.getD j 0)).1.op = true → K.cnt words j + 1 = K.cnt words (j + 1) := fun h1 h2 => by simp only [K.cnt, K.isPriv, h1, h2, Bool.and_self, if_true]
  have c2 : ((K.decode (words.getD j 0)).2 = false ∨ K.privd (K.decode (words.getD j 0)).1.op = false) → K.cnt words j = K.cnt words (j + 1) := fun h => by rcases h with h | h <;> simp only [K.cnt, K.isPriv, h, Bool.and_false, Bool.false_and, Bool.false_eq_true, if_false]
  simp only [Tree.holds_loop, Tree.holds_next, if_true, Tree.holds_cond, Tree.holds_letv, Tree.holds_leaf, Tree.holds_fail, decO, decA, decTup, decMach, decCore, decTrap, decInstr, decPart, decGuest, decConf, decEvent, decVcpu, bytesS, boolS, eventsS, intsS, guestsS, vcpusS, rowS, castL, Option.bind_some, Option.map_some, Option.some.injEq, Nat.beq_refl, beq_self_eq_true, Bool.and_self, cond_true, cond_false, eq_self, beq_iff_eq, beq_eq_false_iff_ne, bne_iff_ne, bne_eq_false_iff_eq, ne_eq, decide_eq_true_eq, decide_eq_false_iff_not, ble_true, ble_false, inRange_iff, inRange_false, Int.ofNat_eq_natCast, Int.toNat_natCast, e5, q1, e6, b1, b2, e7]
  repeat' (first | refine drop_ok ?_ | intro _ | with_reducible apply And.intro)
  all_goals first | rfl | trivial | contradiction | omega | exact nx _ (c1 (by assumption) (by assumption)) (by assumption) | exact nx _ (c2 (.inl (by assumption))) (by assumption) | exact nx _ (c2 (.inr (by assumption))) (by assumption) | trace_state
  
theorem c_law19_EmulateSequence : SpecOk EB_0_1 5 S_law19_EmulateSequence := spec_sigL ok_law19_EmulateSequence (n := 60) (fun (v, words, time, _) => fun _ => some (L_law19_Seq v words time)) fun ⟨v, words, time, ⟨⟩⟩ h hok => a_law19_EmulateSequence v words time (ok_vcpu (okSL_head hok)) (okSL_head (okSL_tail hok)) (ok_int (okSL_head (okSL_tail (okSL_tail hok))))


end Go.Proofs.YtnhokcnnhmkbhaaDoor
