/- Contracts of functions, by evaluation (nothing is claimed here). -/
import Derived.Test.YtnhokcnnhmkbhaaGreatDoorSh29
import Derived.KernelRfl
import Derived.Test.YtnhokcnnhmkbhaaGreatDoorProg
import Derived.Test.YtnhokcnnhmkbhaaGreatDoorHandlerHandledTrapIsOneStepB1
set_option linter.unusedVariables false
set_option linter.unusedSimpArgs false
set_option maxRecDepth 100000
set_option maxHeartbeats 1000000
namespace Go.Proofs.YtnhokcnnhmkbhaaGreatDoor
open Go
/-! csr_Read -/

def S_csr_Read : Spec := sig [.a .u32 12, .i .u64, .i .i64] [.i .u32] (fun (c, time, n, _) => K.csrRead c time n)
noncomputable def E_csr_Read : Env := EB.adds []

theorem ok_csr_Read : EnvOk E_csr_Read := okEB.adds (l := _) trivial

theorem t_csr_Read (c : List Int) (time : Int) (n : Int) : evF E_csr_Read 60 84 (encArgs [.a .u32 12, .i .u64, .i .i64] (c, time, n, ())) = 
  bif (BEq.beq n (7 : Int)) then
    (Tree.leaf (SV.v (Value.int IntKind.u32 (IntKind.wrap IntKind.u32 time))))
  else
    (bif (BEq.beq n (8 : Int)) then
      (Tree.leaf (SV.v (Value.int IntKind.u32 (IntKind.wrap IntKind.u32 (Int.fdiv time (4294967296 : Int))))))
    else
      (bif (decide (n ≥ (0 : Int))) then
        (bif (decide (n < (12 : Int))) then
          (bif (inRange n 12) then
            (Tree.leaf (SV.v (Value.int IntKind.u32 (List.getD c ((Int.toNat n)) (0 : Int)))))
          else
            (Tree.fail))
        else
          (Tree.leaf (SV.v (Value.int IntKind.u32 (0 : Int)))))
      else
        (Tree.leaf (SV.v (Value.int IntKind.u32 (0 : Int)))))) := by kernel_rfl
section
attribute [local irreducible] evF evFL
theorem a_csr_Read (c : List Int) (time : Int) (n : Int) (ok_c : okL .u32 12 c) (ok_time : okI .u64 time) (ok_n : okI .i64 n) : (evF E_csr_Read 60 84 (encArgs [.a .u32 12, .i .u64, .i .i64] (c, time, n, ()))).ends fun out_ => decO [.i .u32] out_ = some (K.csrRead c time n) := by
  rw [t_csr_Read, Tree.ends_holds]
  obtain ⟨t0, t1⟩ := okI_u64 ok_time
  have e1 : IntKind.u32.wrap (Int.fdiv time 4294967296) = time / 4294967296 := by rw [Int.fdiv_eq_ediv_of_nonneg _ (by omega), wrap32]; omega
  simp only [Tree.holds_loop, Tree.holds_fork, Tree.holds_next, if_true, Tree.holds_cond, Tree.holds_letv, Tree.holds_leaf, Tree.holds_fail, decO, decA, decTup, decMach, decCore, decTrap, decInstr, decPart, decGuest, decConf, decEvent, decVcpu, decStep, bytesS, boolS, eventsS, intsS, guestsS, vcpusS, rowS, castL, Option.bind_some, Option.map_some, Option.some.injEq, Nat.beq_refl, beq_self_eq_true, Bool.and_self, cond_true, cond_false, eq_self, K.csrRead, e1, wrap32]
  grind [inRange]
  
theorem c_csr_Read : SpecOk EB 84 S_csr_Read := spec_sig ok_csr_Read (n := 60) fun ⟨c, time, n, ⟨⟩⟩ h hok => a_csr_Read c time n (ok_arr (okSL_head hok)) (ok_int (okSL_head (okSL_tail hok))) (ok_int (okSL_head (okSL_tail (okSL_tail hok))))
end

/-! csr_masks -/

def S_csr_masks : Spec := sig [] [.a .u32 12] (fun _ => K.mk)
noncomputable def E_csr_masks : Env := EB.adds []

theorem ok_csr_masks : EnvOk E_csr_masks := okEB.adds (l := _) trivial

theorem t_csr_masks : evF E_csr_masks 60 114 (encArgs [] ()) = 
  Tree.leaf (SV.agg [(SV.arr IntKind.u32 12 [(14 : Int), (4294967292 : Int), (4294967295 : Int), (4294967295 : Int), (4294967292 : Int), (4294967292 : Int), (4294967295 : Int), (0 : Int), (0 : Int), (4294967295 : Int), (4294967295 : Int), (4294967295 : Int)])]) := by kernel_rfl
section
attribute [local irreducible] evF evFL
theorem a_csr_masks : (evF E_csr_masks 60 114 (encArgs [] ())).ends fun out_ => decO [.a .u32 12] out_ = some (K.mk) := by
  rw [t_csr_masks, Tree.ends_holds]
  rfl
  
theorem c_csr_masks : SpecOk EB 114 S_csr_masks := spec_sig ok_csr_masks (n := 60) fun () h hok => a_csr_masks 
end

/-! csr_Write -/

def S_csr_Write : Spec := sig [.a .u32 12, .i .i64, .i .u32] [.a .u32 12] (fun (c, n, v, _) => K.csrWrite c n v)
noncomputable def E_csr_Write : Env := EB.adds [(114, S_csr_masks)]

theorem ok_csr_Write : EnvOk E_csr_Write := okEB.adds (l := _) ⟨c_csr_masks, trivial⟩

theorem t_csr_Write (c : List Int) (n : Int) (v : Int) : evF E_csr_Write 60 85 (encArgs [.a .u32 12, .i .i64, .i .u32] (c, n, v, ())) = 
  bif (decide (n ≥ (0 : Int))) then
    (bif (decide (n < (12 : Int))) then
      (bif (inRange n 12) then
        (Tree.letv (okO [(AT.a IntKind.u32 12)]) K.mk fun x0 =>
        (bif (inRange n 12) then
          (Tree.letv (okO [(AT.a IntKind.u32 12)]) K.mk fun x1 =>
          (bif (inRange n 12) then
            (bif (inRange n 12) then
              (Tree.leaf (SV.agg [(SV.arr IntKind.u32 12 (List.set c ((Int.toNat n)) (orI IntKind.u32 (andNotI IntKind.u32 (List.getD c ((Int.toNat n)) (0 : Int)) (List.getD x0 ((Int.toNat n)) (0 : Int))) (andI IntKind.u32 v (List.getD x1 ((Int.toNat n)) (0 : Int))))))]))
            else
              (Tree.fail))
          else
            (Tree.fail)))
        else
          (Tree.fail)))
      else
        (Tree.fail))
    else
      (Tree.leaf (SV.agg [(SV.arr IntKind.u32 12 c)])))
  else
    (Tree.leaf (SV.agg [(SV.arr IntKind.u32 12 c)])) := by kernel_rfl
section
attribute [local irreducible] evF evFL
theorem a_csr_Write (c : List Int) (n : Int) (v : Int) (ok_c : okL .u32 12 c) (ok_n : okI .i64 n) (ok_v : okI .u32 v) : (evF E_csr_Write 60 85 (encArgs [.a .u32 12, .i .i64, .i .u32] (c, n, v, ()))).ends fun out_ => decO [.a .u32 12] out_ = some (K.csrWrite c n v) := by
  rw [t_csr_Write, Tree.ends_holds]
  simp only [Tree.holds_loop, Tree.holds_fork, Tree.holds_next, if_true, Tree.holds_cond, Tree.holds_letv, Tree.holds_leaf, Tree.holds_fail, decO, decA, decTup, decMach, decCore, decTrap, decInstr, decPart, decGuest, decConf, decEvent, decVcpu, decStep, bytesS, boolS, eventsS, intsS, guestsS, vcpusS, rowS, castL, Option.bind_some, Option.map_some, Option.some.injEq, Nat.beq_refl, beq_self_eq_true, Bool.and_self, cond_true, cond_false, eq_self, K.csrWrite, K.mix]
  by_cases hn : 0 ≤ n ∧ n < 12
  · simp only [hn.1, hn.2, inRange_iff.2 (show 0 ≤ n ∧ n < ((12 : Nat) : Int) from hn), ge_iff_le, decide_true, and_self, if_true]; simp
  · simp only [if_neg hn, inRange_iff]
    refine ⟨fun h1 => ⟨fun h2 => absurd ⟨by simpa using h1, by simpa using h2⟩ hn, fun _ => trivial⟩, fun _ => trivial⟩
  
theorem c_csr_Write : SpecOk EB 85 S_csr_Write := spec_sig ok_csr_Write (n := 60) fun ⟨c, n, v, ⟨⟩⟩ h hok => a_csr_Write c n v (ok_arr (okSL_head hok)) (ok_int (okSL_head (okSL_tail hok))) (ok_int (okSL_head (okSL_tail (okSL_tail hok))))
end

/-! priv_Execute -/

def S_priv_Execute : Spec := sig [.mach, .instr] [.mach] (fun (m, i, _) => K.priv m i) (pre := fun (m, i, _) => decide (m.out.length ≤ 1099511627776))
noncomputable def E_priv_Execute : Env := EB.adds [(81, S_regs_Get), (83, S_regs_Set), (82, S_trap_Return), (84, S_csr_Read), (85, S_csr_Write)]

theorem ok_priv_Execute : EnvOk E_priv_Execute := okEB.adds (l := _) ⟨c_regs_Get, c_regs_Set, c_trap_Return, c_csr_Read, c_csr_Write, trivial⟩

theorem t_priv_Execute (m : PMach) (i : PInstr) : evF E_priv_Execute 60 52 (encArgs [.mach, .instr] (m, i, ())) = 
  Tree.letv (okO [(AT.i IntKind.u32)]) (K.get m.core.regs i.ra) fun x0 =>
  (bif (BEq.beq i.op (23 : Int)) then
    (Tree.letv (okO [AT.core]) (K.ret m.core) fun x1 =>
    (Tree.leaf (SV.agg [(SV.arr IntKind.u32 16 x1.regs), (SV.v (Value.int IntKind.u32 x1.pc)), (SV.arr IntKind.u32 12 x1.csr), (SV.rd ETy.u8 m.mem), (SV.v (Value.int IntKind.u64 m.time)), (SV.rd ETy.u8 m.out), (SV.v (Value.bool m.halted))])))
  else
    (bif (BEq.beq i.op (21 : Int)) then
      (Tree.letv (okO [(AT.i IntKind.u32)]) (K.csrRead m.core.csr m.time (IntKind.wrap IntKind.i64 i.imm)) fun x1 =>
      (Tree.letv (okO [(AT.a IntKind.u32 16)]) (K.put m.core.regs i.rd x1) fun x2 =>
      (Tree.leaf (SV.agg [(SV.arr IntKind.u32 16 x2), (SV.v (Value.int IntKind.u32 (IntKind.wrap IntKind.u32 (m.core.pc + (4 : Int))))), (SV.arr IntKind.u32 12 m.core.csr), (SV.rd ETy.u8 m.mem), (SV.v (Value.int IntKind.u64 m.time)), (SV.rd ETy.u8 m.out), (SV.v (Value.bool m.halted))]))))
    else
      (bif (BEq.beq i.op (22 : Int)) then
        (Tree.letv (okO [(AT.a IntKind.u32 12)]) (K.csrWrite m.core.csr (IntKind.wrap IntKind.i64 i.imm) x0) fun x1 =>
        (Tree.leaf (SV.agg [(SV.arr IntKind.u32 16 m.core.regs), (SV.v (Value.int IntKind.u32 (IntKind.wrap IntKind.u32 (m.core.pc + (4 : Int))))), (SV.arr IntKind.u32 12 x1), (SV.rd ETy.u8 m.mem), (SV.v (Value.int IntKind.u64 m.time)), (SV.rd ETy.u8 m.out), (SV.v (Value.bool m.halted))])))
      else
        (bif (BEq.beq i.op (24 : Int)) then
          (Tree.leaf (SV.agg [(SV.arr IntKind.u32 16 m.core.regs), (SV.v (Value.int IntKind.u32 (IntKind.wrap IntKind.u32 (m.core.pc + (4 : Int))))), (SV.arr IntKind.u32 12 m.core.csr), (SV.rd ETy.u8 m.mem), (SV.v (Value.int IntKind.u64 m.time)), (SV.rd ETy.u8 m.out), (SV.b true)]))
        else
          (bif (BEq.beq i.op (25 : Int)) then
            (bif (Bool.and (decide ((0 : Int) ≤ (Int.ofNat (List.length m.out)))) (Bool.and (decide ((Int.ofNat (List.length m.out)) ≤ (Int.ofNat (List.length m.out)))) (decide ((Int.ofNat (List.length m.out)) = (Int.ofNat (List.length m.out)))))) then
              (bif (Nat.ble (((List.length (List.drop 0 (List.take (Int.toNat (Int.ofNat (List.length m.out))) m.out))) + 1) * 1) 140737488355328) then
                (Tree.leaf (SV.agg [(SV.arr IntKind.u32 16 m.core.regs), (SV.v (Value.int IntKind.u32 (IntKind.wrap IntKind.u32 (m.core.pc + (4 : Int))))), (SV.arr IntKind.u32 12 m.core.csr), (SV.rd ETy.u8 m.mem), (SV.v (Value.int IntKind.u64 m.time)), (SV.rd ETy.u8 (List.append (List.drop 0 (List.take (Int.toNat (Int.ofNat (List.length m.out))) m.out)) [(IntKind.wrap IntKind.u8 x0)])), (SV.v (Value.bool m.halted))]))
              else
                (Tree.fail))
            else
              (Tree.fail))
          else
            (Tree.leaf (SV.agg [(SV.arr IntKind.u32 16 m.core.regs), (SV.v (Value.int IntKind.u32 (IntKind.wrap IntKind.u32 (m.core.pc + (4 : Int))))), (SV.arr IntKind.u32 12 m.core.csr), (SV.rd ETy.u8 m.mem), (SV.v (Value.int IntKind.u64 m.time)), (SV.rd ETy.u8 m.out), (SV.v (Value.bool m.halted))]))))))) := by kernel_rfl
section
attribute [local irreducible] evF evFL
theorem a_priv_Execute (m : PMach) (i : PInstr) (hpre : m.out.length ≤ 1099511627776) (ok_m : okMach m) (ok_i : okInstr i) : (evF E_priv_Execute 60 52 (encArgs [.mach, .instr] (m, i, ()))).ends fun out_ => decO [.mach] out_ = some (K.priv m i) := by
  rw [t_priv_Execute, Tree.ends_holds]
  obtain ⟨a, b⟩ := okI_i32 ok_i.imm
  have e1 : IntKind.i64.wrap i.imm = i.imm := wrapI64 (by omega) (by omega)
  obtain ⟨g0, g1⟩ := K.get_ok ok_m.core.regs i.ra
  have e2 : Int.tmod (K.get m.core.regs i.ra) 256 = K.get m.core.regs i.ra % 256 := Int.tmod_eq_emod_of_nonneg g0
  simp only [Tree.holds_loop, Tree.holds_fork, Tree.holds_next, if_true, Tree.holds_cond, Tree.holds_letv, Tree.holds_leaf, Tree.holds_fail, decO, decA, decTup, decMach, decCore, decTrap, decInstr, decPart, decGuest, decConf, decEvent, decVcpu, decStep, bytesS, boolS, eventsS, intsS, guestsS, vcpusS, rowS, castL, Option.bind_some, Option.map_some, Option.some.injEq, Nat.beq_refl, beq_self_eq_true, Bool.and_self, cond_true, cond_false, eq_self, e1, e2, wrap8, wrap32, beq_iff_eq, beq_eq_false_iff_ne, bne_iff_ne, bne_eq_false_iff_eq, ne_eq, decide_eq_true_eq, decide_eq_false_iff_not, ble_true, ble_false, inRange_iff, inRange_false, List.drop_zero, Int.ofNat_eq_natCast, Int.toNat_natCast, List.take_length, List.append_eq, Bool.and_eq_true, decide_true, and_true, true_and, Int.emod_emod]
  repeat' (first | refine drop_ok ?_ | intro _ | with_reducible apply And.intro)
  all_goals first | omega | (simp_all [K.priv, K.adv]; done) | skip
  
theorem c_priv_Execute : SpecOk EB 52 S_priv_Execute := spec_sig ok_priv_Execute (n := 60) fun ⟨m, i, ⟨⟩⟩ h hok => a_priv_Execute m i (of_decide_eq_true h) (ok_mach (okSL_head hok)) (ok_instr (okSL_head (okSL_tail hok)))
end

/-! vcpu_Machine -/

def S_vcpu_Machine : Spec := sig [.vcpu, .rd .u8, .i .u64] [.mach] (fun (v, mem, time, _) => K.vmach v mem time)
noncomputable def E_vcpu_Machine : Env := EB.adds []

theorem ok_vcpu_Machine : EnvOk E_vcpu_Machine := okEB.adds (l := _) trivial

theorem t_vcpu_Machine (v : PVcpu) (mem : List Int) (time : Int) : evF E_vcpu_Machine 60 100 (encArgs [.vcpu, .rd .u8, .i .u64] (v, mem, time, ())) = 
  bif v.halted then
    (Tree.leaf (SV.agg [(SV.arr IntKind.u32 16 v.core.regs), (SV.v (Value.int IntKind.u32 v.core.pc)), (SV.arr IntKind.u32 12 v.core.csr), (SV.rd ETy.u8 mem), (SV.v (Value.int IntKind.u64 time)), (SV.rd ETy.u8 v.out), (SV.b true)]))
  else
    (Tree.leaf (SV.agg [(SV.arr IntKind.u32 16 v.core.regs), (SV.v (Value.int IntKind.u32 v.core.pc)), (SV.arr IntKind.u32 12 v.core.csr), (SV.rd ETy.u8 mem), (SV.v (Value.int IntKind.u64 time)), (SV.rd ETy.u8 v.out), (SV.b false)])) := by kernel_rfl
section
attribute [local irreducible] evF evFL
theorem a_vcpu_Machine (v : PVcpu) (mem : List Int) (time : Int) (ok_v : okVcpu v) (ok_mem : okBytes mem) (ok_time : okI .u64 time) : (evF E_vcpu_Machine 60 100 (encArgs [.vcpu, .rd .u8, .i .u64] (v, mem, time, ()))).ends fun out_ => decO [.mach] out_ = some (K.vmach v mem time) := by
  rw [t_vcpu_Machine, Tree.ends_holds]
  simp only [Tree.holds_loop, Tree.holds_fork, Tree.holds_next, if_true, Tree.holds_cond, Tree.holds_letv, Tree.holds_leaf, Tree.holds_fail, decO, decA, decTup, decMach, decCore, decTrap, decInstr, decPart, decGuest, decConf, decEvent, decVcpu, decStep, bytesS, boolS, eventsS, intsS, guestsS, vcpusS, rowS, castL, Option.bind_some, Option.map_some, Option.some.injEq, Nat.beq_refl, beq_self_eq_true, Bool.and_self, cond_true, cond_false, eq_self, K.vmach]
  cases v.halted <;> simp
  
theorem c_vcpu_Machine : SpecOk EB 100 S_vcpu_Machine := spec_sig ok_vcpu_Machine (n := 60) fun ⟨v, mem, time, ⟨⟩⟩ h hok => a_vcpu_Machine v mem time (ok_vcpu (okSL_head hok)) (ok_bytes (okSL_head (okSL_tail hok))) (ok_int (okSL_head (okSL_tail (okSL_tail hok))))
end

/-! emul_Emulate -/

def S_emul_Emulate : Spec := sig [.vcpu, .i .u32, .i .u64] [.vcpu] (fun (v, w, time, _) => K.emu v w time) (pre := fun (v, w, time, _) => decide (v.out.length ≤ 1099511627776 ∧ v.log.length ≤ 1099511627776))
noncomputable def E_emul_Emulate : Env := EB_0_1.adds [(96, S_emul_of), (97, S_priv_ReadsTime), (98, S_emul_seen), (99, S_vcpu_WithMachine), (52, S_priv_Execute), (100, S_vcpu_Machine)]

theorem ok_emul_Emulate : EnvOk E_emul_Emulate := okEB_0_1.adds (l := _) ⟨c_emul_of, (up_to_0_1 c_priv_ReadsTime), (up_to_0_1 c_emul_seen), (up_to_0_1 c_vcpu_WithMachine), (up_to_0_1 c_priv_Execute), (up_to_0_1 c_vcpu_Machine), trivial⟩

theorem t_emul_Emulate (v : PVcpu) (w : Int) (time : Int) : evF E_emul_Emulate 60 58 (encArgs [.vcpu, .i .u32, .i .u64] (v, w, time, ())) = 
  Tree.letv (okO [AT.instr, AT.b]) ((K.decode w).fst, (K.isPriv w)) fun x0 =>
  (bif x0.snd then
    (Tree.letv (okO [AT.b]) (K.reads x0.fst) fun x1 =>
    (bif x1 then
      (bif (Bool.and (decide ((0 : Int) ≤ (Int.ofNat (List.length v.log)))) (Bool.and (decide ((Int.ofNat (List.length v.log)) ≤ (Int.ofNat (List.length v.log)))) (decide ((Int.ofNat (List.length v.log)) = (Int.ofNat (List.length v.log)))))) then
        (Tree.letv (okO [AT.event]) (K.seen x0.fst v.done time) fun x2 =>
        (bif (Nat.ble (((List.length (List.drop 0 (List.take (Int.toNat (Int.ofNat (List.length v.log))) v.log))) + 1) * 24) 140737488355328) then
          (Tree.letv (okO [AT.mach]) (K.vmach (PVcpu.mk v.core v.out v.halted v.done (List.append (List.drop 0 (List.take (Int.toNat (Int.ofNat (List.length v.log))) v.log)) [x2])) [] time) fun x3 =>
          (bif (decide ((List.length x3.out) ≤ 1099511627776)) then
            (Tree.letv (okO [AT.mach]) (K.priv x3 x0.fst) fun x4 =>
            (Tree.letv (okO [AT.vcpu]) (K.vwith (PVcpu.mk v.core v.out v.halted v.done (List.append (List.drop 0 (List.take (Int.toNat (Int.ofNat (List.length v.log))) v.log)) [x2])) x4) fun x5 =>
            (Tree.leaf (SV.agg [(SV.arr IntKind.u32 16 x5.core.regs), (SV.v (Value.int IntKind.u32 x5.core.pc)), (SV.arr IntKind.u32 12 x5.core.csr), (SV.rd ETy.u8 x5.out), (SV.v (Value.bool x5.halted)), (SV.v (Value.int IntKind.i64 (IntKind.wrap IntKind.i64 (x5.done + (1 : Int))))), (SV.rd ETy.event x5.log)]))))
          else
            (Tree.fail)))
        else
          (Tree.fail)))
      else
        (Tree.fail))
    else
      (Tree.letv (okO [AT.mach]) (K.vmach v [] time) fun x2 =>
      (bif (decide ((List.length x2.out) ≤ 1099511627776)) then
        (Tree.letv (okO [AT.mach]) (K.priv x2 x0.fst) fun x3 =>
        (Tree.letv (okO [AT.vcpu]) (K.vwith v x3) fun x4 =>
        (Tree.leaf (SV.agg [(SV.arr IntKind.u32 16 x4.core.regs), (SV.v (Value.int IntKind.u32 x4.core.pc)), (SV.arr IntKind.u32 12 x4.core.csr), (SV.rd ETy.u8 x4.out), (SV.v (Value.bool x4.halted)), (SV.v (Value.int IntKind.i64 (IntKind.wrap IntKind.i64 (x4.done + (1 : Int))))), (SV.rd ETy.event x4.log)]))))
      else
        (Tree.fail)))))
  else
    (Tree.leaf (SV.agg [(SV.arr IntKind.u32 16 v.core.regs), (SV.v (Value.int IntKind.u32 v.core.pc)), (SV.arr IntKind.u32 12 v.core.csr), (SV.rd ETy.u8 v.out), (SV.v (Value.bool v.halted)), (SV.v (Value.int IntKind.i64 v.done)), (SV.rd ETy.event v.log)]))) := by kernel_rfl
section
attribute [local irreducible] evF evFL
theorem a_emul_Emulate (v : PVcpu) (w : Int) (time : Int) (hpre : v.out.length ≤ 1099511627776 ∧ v.log.length ≤ 1099511627776) (ok_v : okVcpu v) (ok_w : okI .u32 w) (ok_time : okI .u64 time) : (evF E_emul_Emulate 60 58 (encArgs [.vcpu, .i .u32, .i .u64] (v, w, time, ()))).ends fun out_ => decO [.vcpu] out_ = some (K.emu v w time) := by
  rw [t_emul_Emulate, Tree.ends_holds]
  simp only [Tree.holds_loop, Tree.holds_fork, Tree.holds_next, if_true, Tree.holds_cond, Tree.holds_letv, Tree.holds_leaf, Tree.holds_fail, decO, decA, decTup, decMach, decCore, decTrap, decInstr, decPart, decGuest, decConf, decEvent, decVcpu, decStep, bytesS, boolS, eventsS, intsS, guestsS, vcpusS, rowS, castL, Option.bind_some, Option.map_some, Option.some.injEq, Nat.beq_refl, beq_self_eq_true, Bool.and_self, cond_true, cond_false, eq_self, beq_iff_eq, beq_eq_false_iff_ne, bne_iff_ne, bne_eq_false_iff_eq, ne_eq, decide_eq_true_eq, decide_eq_false_iff_not, ble_true, ble_false, inRange_iff, inRange_false, List.drop_zero, Int.ofNat_eq_natCast, Int.toNat_natCast, List.take_length, List.append_eq, Bool.and_eq_true, decide_true, and_true, true_and, K.vwith, K.vmach, wrap_inc ok_v.done]
  have e1 : K.isPriv w = true → K.emu v w time = (let i := (K.decode w).1; let m := K.priv (K.vmach v [] time) i; { core := m.core, out := m.out, halted := m.halted, done := K.inc v.done, log := if K.reads i = true then v.log ++ [K.seen i v.done time] else v.log }) := fun h => by unfold K.emu; rw [if_pos h]
  have e2 : K.isPriv w = false → K.emu v w time = v := fun h => by unfold K.emu; rw [if_neg (by rw [h]; decide)]
  simp only [K.vmach] at e1
  repeat' (first | refine drop_ok ?_ | intro _ | with_reducible apply And.intro)
  all_goals first | omega | (rw [e1 (by assumption)]; simp_all; done) | (rw [e2 (by assumption)]) | (clear e1 e2; simp_all; done) | (clear e1 e2; simp_all; omega)
  
theorem c_emul_Emulate : SpecOk EB_0_1 58 S_emul_Emulate := spec_sig ok_emul_Emulate (n := 60) fun ⟨v, w, time, ⟨⟩⟩ h hok => a_emul_Emulate v w time (of_decide_eq_true h) (ok_vcpu (okSL_head hok)) (ok_int (okSL_head (okSL_tail hok))) (ok_int (okSL_head (okSL_tail (okSL_tail hok))))
end

/-! trap_Enter -/

def S_trap_Enter : Spec := sig [.core, .trap] [.core] (fun (c, t, _) => K.enter c t)
noncomputable def E_trap_Enter : Env := EB.adds []

theorem ok_trap_Enter : EnvOk E_trap_Enter := okEB.adds (l := _) trivial

theorem t_trap_Enter (c : PCore) (t : PTrap) : evF E_trap_Enter 60 49 (encArgs [.core, .trap] (c, t, ())) = 
  bif (BEq.beq t.cause (0 : Int)) then
    (Tree.leaf (SV.agg [(SV.arr IntKind.u32 16 c.regs), (SV.v (Value.int IntKind.u32 c.pc)), (SV.arr IntKind.u32 12 c.csr)]))
  else
    (bif (bne (andI IntKind.u32 (List.getD (List.set (List.set (List.set c.csr 1 c.pc) 2 (IntKind.wrap IntKind.u32 t.cause)) 3 t.tval) 0 (0 : Int)) (1 : Int)) (0 : Int)) then
      (bif (bne (andI IntKind.u32 (List.getD (List.set (List.set (List.set c.csr 1 c.pc) 2 (IntKind.wrap IntKind.u32 t.cause)) 3 t.tval) 0 (0 : Int)) (2 : Int)) (0 : Int)) then
        (Tree.leaf (SV.agg [(SV.arr IntKind.u32 16 c.regs), (SV.v (Value.int IntKind.u32 (List.getD (List.set (List.set (List.set c.csr 1 c.pc) 2 (IntKind.wrap IntKind.u32 t.cause)) 3 t.tval) 4 (0 : Int)))), (SV.arr IntKind.u32 12 (List.set (List.set (List.set (List.set c.csr 1 c.pc) 2 (IntKind.wrap IntKind.u32 t.cause)) 3 t.tval) 0 (andNotI IntKind.u32 (orI IntKind.u32 (orI IntKind.u32 (orI IntKind.u32 (List.getD (List.set (List.set (List.set c.csr 1 c.pc) 2 (IntKind.wrap IntKind.u32 t.cause)) 3 t.tval) 0 (0 : Int)) (4 : Int)) (8 : Int)) (1 : Int)) (2 : Int))))]))
      else
        (Tree.leaf (SV.agg [(SV.arr IntKind.u32 16 c.regs), (SV.v (Value.int IntKind.u32 (List.getD (List.set (List.set (List.set c.csr 1 c.pc) 2 (IntKind.wrap IntKind.u32 t.cause)) 3 t.tval) 4 (0 : Int)))), (SV.arr IntKind.u32 12 (List.set (List.set (List.set (List.set c.csr 1 c.pc) 2 (IntKind.wrap IntKind.u32 t.cause)) 3 t.tval) 0 (andNotI IntKind.u32 (orI IntKind.u32 (andNotI IntKind.u32 (orI IntKind.u32 (List.getD (List.set (List.set (List.set c.csr 1 c.pc) 2 (IntKind.wrap IntKind.u32 t.cause)) 3 t.tval) 0 (0 : Int)) (4 : Int)) (8 : Int)) (1 : Int)) (2 : Int))))])))
    else
      (bif (bne (andI IntKind.u32 (List.getD (List.set (List.set (List.set c.csr 1 c.pc) 2 (IntKind.wrap IntKind.u32 t.cause)) 3 t.tval) 0 (0 : Int)) (2 : Int)) (0 : Int)) then
        (Tree.leaf (SV.agg [(SV.arr IntKind.u32 16 c.regs), (SV.v (Value.int IntKind.u32 (List.getD (List.set (List.set (List.set c.csr 1 c.pc) 2 (IntKind.wrap IntKind.u32 t.cause)) 3 t.tval) 4 (0 : Int)))), (SV.arr IntKind.u32 12 (List.set (List.set (List.set (List.set c.csr 1 c.pc) 2 (IntKind.wrap IntKind.u32 t.cause)) 3 t.tval) 0 (andNotI IntKind.u32 (orI IntKind.u32 (orI IntKind.u32 (andNotI IntKind.u32 (List.getD (List.set (List.set (List.set c.csr 1 c.pc) 2 (IntKind.wrap IntKind.u32 t.cause)) 3 t.tval) 0 (0 : Int)) (4 : Int)) (8 : Int)) (1 : Int)) (2 : Int))))]))
      else
        (Tree.leaf (SV.agg [(SV.arr IntKind.u32 16 c.regs), (SV.v (Value.int IntKind.u32 (List.getD (List.set (List.set (List.set c.csr 1 c.pc) 2 (IntKind.wrap IntKind.u32 t.cause)) 3 t.tval) 4 (0 : Int)))), (SV.arr IntKind.u32 12 (List.set (List.set (List.set (List.set c.csr 1 c.pc) 2 (IntKind.wrap IntKind.u32 t.cause)) 3 t.tval) 0 (andNotI IntKind.u32 (orI IntKind.u32 (andNotI IntKind.u32 (andNotI IntKind.u32 (List.getD (List.set (List.set (List.set c.csr 1 c.pc) 2 (IntKind.wrap IntKind.u32 t.cause)) 3 t.tval) 0 (0 : Int)) (4 : Int)) (8 : Int)) (1 : Int)) (2 : Int))))])))) := by kernel_rfl
section
attribute [local irreducible] evF evFL
theorem a_trap_Enter (c : PCore) (t : PTrap) (ok_c : okCore c) (ok_t : okTrap t) : (evF E_trap_Enter 60 49 (encArgs [.core, .trap] (c, t, ()))).ends fun out_ => decO [.core] out_ = some (K.enter c t) := by
  rw [t_trap_Enter, Tree.ends_holds]
  obtain ⟨s0, s1⟩ := ok_c.csr.u32 (i := 0) (by omega)
  obtain ⟨a0, a1, a2, a3, a4, a5, a6, a7, a8, a9, a10, a11, hc⟩ := list12 ok_c.csr.1
  have hs : c.csr.getD 0 0 = a0 := by rw [hc]; rfl
  rw [hs] at s0 s1
  simp only [Tree.holds_loop, Tree.holds_fork, Tree.holds_next, if_true, Tree.holds_cond, Tree.holds_letv, Tree.holds_leaf, Tree.holds_fail, decO, decA, decTup, decMach, decCore, decTrap, decInstr, decPart, decGuest, decConf, decEvent, decVcpu, decStep, bytesS, boolS, eventsS, intsS, guestsS, vcpusS, rowS, castL, Option.bind_some, Option.map_some, Option.some.injEq, Nat.beq_refl, beq_self_eq_true, Bool.and_self, cond_true, cond_false, eq_self, beq_iff_eq, beq_eq_false_iff_ne, bne_iff_ne, bne_eq_false_iff_eq, ne_eq, decide_eq_true_eq, decide_eq_false_iff_not, ble_true, ble_false, inRange_iff, inRange_false, K.enter, hc, wrap32]
  simp only [List.set_cons_zero, List.set_cons_succ, List.getD_cons_zero, List.getD_cons_succ]
  simp only [and_1 s0 s1, and_2 s0 s1]
  refine ⟨fun h => ?_, fun h => ?_⟩
  · rw [if_pos h, ← hc]
  rw [if_neg h]
  unfold K.enterS
  repeat' (first | refine drop_ok ?_ | intro _ | with_reducible apply And.intro)
  all_goals
    simp only [PCore.mk.injEq, List.cons.injEq, and_true, true_and]
    show @Eq Int _ _
    first
      | (rw [or_4 s0 s1, or_8 (by omega) (by omega), or_1 (by omega) (by omega), andNot_2 (by omega) (by omega)]; omega)
      | (rw [or_4 s0 s1, andNot_8 (by omega) (by omega), or_1 (by omega) (by omega), andNot_2 (by omega) (by omega)]; omega)
      | (rw [andNot_4 s0 s1, or_8 (by omega) (by omega), or_1 (by omega) (by omega), andNot_2 (by omega) (by omega)]; omega)
      | (rw [andNot_4 s0 s1, andNot_8 (by omega) (by omega), or_1 (by omega) (by omega), andNot_2 (by omega) (by omega)]; omega)
  
theorem c_trap_Enter : SpecOk EB 49 S_trap_Enter := spec_sig ok_trap_Enter (n := 60) fun ⟨c, t, ⟨⟩⟩ h hok => a_trap_Enter c t (ok_core (okSL_head hok)) (ok_trap (okSL_head (okSL_tail hok)))
end

/-! vtrap_enter -/

def S_vtrap_enter : Spec := sig [.vcpu, .trap, .rd .event] [.vcpu] (fun (v, t, seen, _) => { core := K.enter v.core t, out := v.out, halted := v.halted, done := K.inc v.done, log := v.log }) (pre := fun (v, t, seen, _) => decide (seen.length = 0))
noncomputable def E_vtrap_enter : Env := EB.adds [(49, S_trap_Enter)]

theorem ok_vtrap_enter : EnvOk E_vtrap_enter := okEB.adds (l := _) ⟨c_trap_Enter, trivial⟩

theorem t_vtrap_enter (v : PVcpu) (t : PTrap) (seen : List PEvent) : evF E_vtrap_enter 60 101 (encArgs [.vcpu, .trap, .rd .event] (v, t, seen, ())) = 
  Tree.letv (okO [AT.core]) (K.enter v.core t) fun x0 =>
  (bif (decide ((Int.ofNat (List.length seen)) > (0 : Int))) then
    (bif (decide ((IntKind.wrap IntKind.i64 ((0 : Int) + (Int.ofNat (List.length v.log)))) < (0 : Int))) then
      (Tree.fail)
    else
      (bif (decide ((IntKind.wrap IntKind.i64 ((IntKind.wrap IntKind.i64 ((0 : Int) + (Int.ofNat (List.length v.log)))) + (Int.ofNat (List.length seen)))) < (0 : Int))) then
        (Tree.fail)
      else
        (bif (decide ((IntKind.wrap IntKind.i64 ((IntKind.wrap IntKind.i64 ((0 : Int) + (Int.ofNat (List.length v.log)))) + (Int.ofNat (List.length seen)))) < (0 : Int))) then
          (Tree.fail)
        else
          (bif (decide ((IntKind.wrap IntKind.i64 ((IntKind.wrap IntKind.i64 ((IntKind.wrap IntKind.i64 ((0 : Int) + (Int.ofNat (List.length v.log)))) + (Int.ofNat (List.length seen)))) - (0 : Int))) > (0 : Int))) then
            (bif (Bool.and (decide ((0 : Int) ≤ (IntKind.wrap IntKind.i64 ((IntKind.wrap IntKind.i64 ((IntKind.wrap IntKind.i64 ((0 : Int) + (Int.ofNat (List.length v.log)))) + (Int.ofNat (List.length seen)))) - (0 : Int))))) (decide (((IntKind.wrap IntKind.i64 ((IntKind.wrap IntKind.i64 ((IntKind.wrap IntKind.i64 ((0 : Int) + (Int.ofNat (List.length v.log)))) + (Int.ofNat (List.length seen)))) - (0 : Int))) * (24 : Int)) ≤ (140737488355328 : Int)))) then
              (Tree.fail)
            else
              (Tree.fail))
          else
            (bif (Nat.ble ((List.length v.log) * 24) 140737488355328) then
              (bif (Nat.ble (((List.length v.log) + (List.length seen)) * 24) 140737488355328) then
                (Tree.leaf (SV.agg [(SV.arr IntKind.u32 16 x0.regs), (SV.v (Value.int IntKind.u32 x0.pc)), (SV.arr IntKind.u32 12 x0.csr), (SV.rd ETy.u8 v.out), (SV.v (Value.bool v.halted)), (SV.v (Value.int IntKind.i64 (IntKind.wrap IntKind.i64 (v.done + (1 : Int))))), (SV.rd ETy.event (List.append v.log seen))]))
              else
                (Tree.fail))
            else
              (Tree.fail))))))
  else
    (Tree.leaf (SV.agg [(SV.arr IntKind.u32 16 x0.regs), (SV.v (Value.int IntKind.u32 x0.pc)), (SV.arr IntKind.u32 12 x0.csr), (SV.rd ETy.u8 v.out), (SV.v (Value.bool v.halted)), (SV.v (Value.int IntKind.i64 (IntKind.wrap IntKind.i64 (v.done + (1 : Int))))), (SV.rd ETy.event v.log)]))) := by kernel_rfl
section
attribute [local irreducible] evF evFL
theorem a_vtrap_enter (v : PVcpu) (t : PTrap) (seen : List PEvent) (hpre : seen.length = 0) (ok_v : okVcpu v) (ok_t : okTrap t) (ok_seen : okEvents seen) : (evF E_vtrap_enter 60 101 (encArgs [.vcpu, .trap, .rd .event] (v, t, seen, ()))).ends fun out_ => decO [.vcpu] out_ = some ({ core := K.enter v.core t, out := v.out, halted := v.halted, done := K.inc v.done, log := v.log }) := by
  rw [t_vtrap_enter, Tree.ends_holds]
  simp only [Tree.holds_loop, Tree.holds_fork, Tree.holds_next, if_true, Tree.holds_cond, Tree.holds_letv, Tree.holds_leaf, Tree.holds_fail, decO, decA, decTup, decMach, decCore, decTrap, decInstr, decPart, decGuest, decConf, decEvent, decVcpu, decStep, bytesS, boolS, eventsS, intsS, guestsS, vcpusS, rowS, castL, Option.bind_some, Option.map_some, Option.some.injEq, Nat.beq_refl, beq_self_eq_true, Bool.and_self, cond_true, cond_false, eq_self, beq_iff_eq, beq_eq_false_iff_ne, bne_iff_ne, bne_eq_false_iff_eq, ne_eq, decide_eq_true_eq, decide_eq_false_iff_not, ble_true, ble_false, inRange_iff, inRange_false, wrap_inc ok_v.done]
  repeat' (first | refine drop_ok ?_ | intro _ | with_reducible apply And.intro)
  all_goals first | omega | (simp_all; done)
  
theorem c_vtrap_enter : SpecOk EB 101 S_vtrap_enter := spec_sig ok_vtrap_enter (n := 60) fun ⟨v, t, seen, ⟨⟩⟩ h hok => a_vtrap_enter v t seen (of_decide_eq_true h) (ok_vcpu (okSL_head hok)) (ok_trap (okSL_head (okSL_tail hok))) (ok_events (okSL_head (okSL_tail (okSL_tail hok))))
end

/-! vtrap_Reflect -/

def S_vtrap_Reflect : Spec := sig [.vcpu, .trap] [.vcpu] (fun (v, t, _) => K.reflect v t)
noncomputable def E_vtrap_Reflect : Env := EB.adds [(101, S_vtrap_enter)]

theorem ok_vtrap_Reflect : EnvOk E_vtrap_Reflect := okEB.adds (l := _) ⟨c_vtrap_enter, trivial⟩

theorem t_vtrap_Reflect (v : PVcpu) (t : PTrap) : evF E_vtrap_Reflect 60 61 (encArgs [.vcpu, .trap] (v, t, ())) = 
  bif (BEq.beq t.cause (0 : Int)) then
    (Tree.leaf (SV.agg [(SV.arr IntKind.u32 16 v.core.regs), (SV.v (Value.int IntKind.u32 v.core.pc)), (SV.arr IntKind.u32 12 v.core.csr), (SV.rd ETy.u8 v.out), (SV.v (Value.bool v.halted)), (SV.v (Value.int IntKind.i64 v.done)), (SV.rd ETy.event v.log)]))
  else
    (Tree.letv (okO [AT.vcpu]) (PVcpu.mk (K.enter v.core t) v.out v.halted (K.inc v.done) v.log) fun x0 =>
    (Tree.leaf (SV.agg [(SV.arr IntKind.u32 16 x0.core.regs), (SV.v (Value.int IntKind.u32 x0.core.pc)), (SV.arr IntKind.u32 12 x0.core.csr), (SV.rd ETy.u8 x0.out), (SV.v (Value.bool x0.halted)), (SV.v (Value.int IntKind.i64 x0.done)), (SV.rd ETy.event x0.log)]))) := by kernel_rfl
section
attribute [local irreducible] evF evFL
theorem a_vtrap_Reflect (v : PVcpu) (t : PTrap) (ok_v : okVcpu v) (ok_t : okTrap t) : (evF E_vtrap_Reflect 60 61 (encArgs [.vcpu, .trap] (v, t, ()))).ends fun out_ => decO [.vcpu] out_ = some (K.reflect v t) := by
  rw [t_vtrap_Reflect, Tree.ends_holds]
  simp only [Tree.holds_loop, Tree.holds_fork, Tree.holds_next, if_true, Tree.holds_cond, Tree.holds_letv, Tree.holds_leaf, Tree.holds_fail, decO, decA, decTup, decMach, decCore, decTrap, decInstr, decPart, decGuest, decConf, decEvent, decVcpu, decStep, bytesS, boolS, eventsS, intsS, guestsS, vcpusS, rowS, castL, Option.bind_some, Option.map_some, Option.some.injEq, Nat.beq_refl, beq_self_eq_true, Bool.and_self, cond_true, cond_false, eq_self, beq_iff_eq, beq_eq_false_iff_ne, bne_iff_ne, bne_eq_false_iff_eq, ne_eq, decide_eq_true_eq, decide_eq_false_iff_not, ble_true, ble_false, inRange_iff, inRange_false, K.reflect]
  repeat' (first | refine drop_ok ?_ | intro _ | with_reducible apply And.intro)
  all_goals first | omega | (simp_all; done)
  
theorem c_vtrap_Reflect : SpecOk EB 61 S_vtrap_Reflect := spec_sig ok_vtrap_Reflect (n := 60) fun ⟨v, t, ⟨⟩⟩ h hok => a_vtrap_Reflect v t (ok_vcpu (okSL_head hok)) (ok_trap (okSL_head (okSL_tail hok)))
end

/-! handler_Handle -/

def S_handler_Handle : Spec := sig [.vcpu, .trap, .i .u64] [.vcpu] (fun (v, t, time, _) => K.handle v t time) (pre := fun (v, t, time, _) => decide (v.out.length ≤ 1099511627776 ∧ v.log.length ≤ 1099511627776))
noncomputable def E_handler_Handle : Env := EB_0_1.adds [(13, S_handler_IsMonitorTrap), (56, S_emul_CanEmulate), (58, S_emul_Emulate), (61, S_vtrap_Reflect)]

theorem ok_handler_Handle : EnvOk E_handler_Handle := okEB_0_1.adds (l := _) ⟨(up_to_0_1 c_handler_IsMonitorTrap), c_emul_CanEmulate, c_emul_Emulate, (up_to_0_1 c_vtrap_Reflect), trivial⟩

theorem t_handler_Handle (v : PVcpu) (t : PTrap) (time : Int) : evF E_handler_Handle 60 14 (encArgs [.vcpu, .trap, .i .u64] (v, t, time, ())) = 
  Tree.letv (okO [AT.b]) (K.ours t) fun x0 =>
  (bif x0 then
    (Tree.leaf (SV.agg [(SV.arr IntKind.u32 16 v.core.regs), (SV.v (Value.int IntKind.u32 v.core.pc)), (SV.arr IntKind.u32 12 v.core.csr), (SV.rd ETy.u8 v.out), (SV.v (Value.bool v.halted)), (SV.v (Value.int IntKind.i64 v.done)), (SV.rd ETy.event v.log)]))
  else
    (Tree.letv (okO [AT.b]) (K.can v t) fun x1 =>
    (bif x1 then
      (bif (decide (And ((List.length v.out) ≤ 1099511627776) ((List.length v.log) ≤ 1099511627776))) then
        (Tree.letv (okO [AT.vcpu]) (K.emu v t.tval time) fun x2 =>
        (Tree.leaf (SV.agg [(SV.arr IntKind.u32 16 x2.core.regs), (SV.v (Value.int IntKind.u32 x2.core.pc)), (SV.arr IntKind.u32 12 x2.core.csr), (SV.rd ETy.u8 x2.out), (SV.v (Value.bool x2.halted)), (SV.v (Value.int IntKind.i64 x2.done)), (SV.rd ETy.event x2.log)])))
      else
        (Tree.fail))
    else
      (Tree.letv (okO [AT.vcpu]) (K.reflect v t) fun x2 =>
      (Tree.leaf (SV.agg [(SV.arr IntKind.u32 16 x2.core.regs), (SV.v (Value.int IntKind.u32 x2.core.pc)), (SV.arr IntKind.u32 12 x2.core.csr), (SV.rd ETy.u8 x2.out), (SV.v (Value.bool x2.halted)), (SV.v (Value.int IntKind.i64 x2.done)), (SV.rd ETy.event x2.log)])))))) := by kernel_rfl
section
attribute [local irreducible] evF evFL
theorem a_handler_Handle (v : PVcpu) (t : PTrap) (time : Int) (hpre : v.out.length ≤ 1099511627776 ∧ v.log.length ≤ 1099511627776) (ok_v : okVcpu v) (ok_t : okTrap t) (ok_time : okI .u64 time) : (evF E_handler_Handle 60 14 (encArgs [.vcpu, .trap, .i .u64] (v, t, time, ()))).ends fun out_ => decO [.vcpu] out_ = some (K.handle v t time) := by
  rw [t_handler_Handle, Tree.ends_holds]
  simp only [Tree.holds_loop, Tree.holds_fork, Tree.holds_next, if_true, Tree.holds_cond, Tree.holds_letv, Tree.holds_leaf, Tree.holds_fail, decO, decA, decTup, decMach, decCore, decTrap, decInstr, decPart, decGuest, decConf, decEvent, decVcpu, decStep, bytesS, boolS, eventsS, intsS, guestsS, vcpusS, rowS, castL, Option.bind_some, Option.map_some, Option.some.injEq, Nat.beq_refl, beq_self_eq_true, Bool.and_self, cond_true, cond_false, eq_self, beq_iff_eq, beq_eq_false_iff_ne, bne_iff_ne, bne_eq_false_iff_eq, ne_eq, decide_eq_true_eq, decide_eq_false_iff_not, ble_true, ble_false, inRange_iff, inRange_false, K.handle]
  repeat' (first | refine drop_ok ?_ | intro _ | with_reducible apply And.intro)
  all_goals first | omega | (simp_all; done)
  
theorem c_handler_Handle : SpecOk EB_0_1 14 S_handler_Handle := spec_sig ok_handler_Handle (n := 60) fun ⟨v, t, time, ⟨⟩⟩ h hok => a_handler_Handle v t time (of_decide_eq_true h) (ok_vcpu (okSL_head hok)) (ok_trap (okSL_head (okSL_tail hok))) (ok_int (okSL_head (okSL_tail (okSL_tail hok))))
end

/-! ref05_Same -/
@[reducible] def L_ref05_Same (a b : List Int) : LoopSpec where
  σ := Nat
  slots := [0, 1, 4, 5]
  keys := []
  vals := fun j => [.rd .u8 a, .rd .u8 b, .b false, .v (.int .i64 (j : Int))]
  blks := fun _ => []
  inv := fun j => j ≤ a.length ∧ a.take j = b.take j
  mu := fun j => a.length - j
def S_ref05_Same : Spec := sig [.rd .u8, .rd .u8] [.b] (fun (a, b, _) => decide (a = b))
noncomputable def E_ref05_Same : Env := EB.adds []

theorem ok_ref05_Same : EnvOk E_ref05_Same := okEB.adds (l := _) trivial

theorem t_ref05_Same (a : List Int) (b : List Int) : evFL E_ref05_Same (fun _ => some (L_ref05_Same a b)) 60 12 (encArgs [.rd .u8, .rd .u8] (a, b, ())) = 
  bif (bne (Int.ofNat (List.length a)) (Int.ofNat (List.length b))) then
    (Tree.leaf (SV.b false))
  else
    (Tree.loop 0 (L_ref05_Same a b) [(SV.rd ETy.u8 a), (SV.rd ETy.u8 b), (SV.b false), (SV.v (Value.int IntKind.i64 (0 : Int)))] [] fun (x0 : Nat) =>
    (bif (decide ((Int.ofNat x0) < (Int.ofNat (List.length a)))) then
      (bif (inRange (Int.ofNat x0) (List.length a)) then
        (bif (inRange (Int.ofNat x0) (List.length b)) then
          (bif (bne (List.getD a (Int.toNat (Int.ofNat x0)) (0 : Int)) (List.getD b (Int.toNat (Int.ofNat x0)) (0 : Int))) then
            (Tree.leaf (SV.b false))
          else
            ((Tree.next 0 [(SV.rd ETy.u8 a), (SV.rd ETy.u8 b), (SV.b false), (SV.v (Value.int IntKind.i64 (IntKind.wrap IntKind.i64 ((Int.ofNat x0) + (1 : Int)))))] [])))
        else
          (Tree.fail))
      else
        (Tree.fail))
    else
      (Tree.leaf (SV.b true)))) := by kernel_rfl
section
attribute [local irreducible] evF evFL
theorem a_ref05_Same (a : List Int) (b : List Int) (ok_a : okBytes a) (ok_b : okBytes b) : (evFL E_ref05_Same (fun _ => some (L_ref05_Same a b)) 60 12 (encArgs [.rd .u8, .rd .u8] (a, b, ()))).ends fun out_ => decO [.b] out_ = some (decide (a = b)) := by
  rw [t_ref05_Same, Tree.ends_holds]
  simp only [Tree.holds_cond, Tree.holds_leaf, Tree.holds_loop]
  refine ⟨fun h => ?_, fun h => ?_⟩
  · have h : ¬ ((a.length : Int) = (b.length : Int)) := by simpa using h
    have : a ≠ b := fun e => h (by rw [e])
    simp [decO, decA, decTup, decMach, decCore, decTrap, decInstr, decPart, decGuest, decConf, decEvent, decVcpu, decStep, bytesS, boolS, eventsS, intsS, guestsS, vcpusS, rowS, castL, Option.bind_some, Option.map_some, Option.some.injEq, Nat.beq_refl, beq_self_eq_true, Bool.and_self, cond_true, cond_false, eq_self, this]
  have hl : (a.length : Int) = (b.length : Int) := by simpa using h
  have hl : a.length = b.length := by omega
  have hlim : a.length ≤ 140737488355328 := ok_a.1
  refine ⟨⟨(0 : Nat), rfl, rfl, ⟨Nat.zero_le _, rfl⟩, trivial⟩, fun (j : Nat) ⟨hj, he⟩ => ?_⟩
  simp only [Tree.holds_loop, Tree.holds_fork, Tree.holds_next, if_true, Tree.holds_cond, Tree.holds_letv, Tree.holds_leaf, Tree.holds_fail]
  refine ⟨fun h => ?_, fun h => ?_⟩
  · have hlt : j < a.length := by simpa using h
    have r1 : inRange (j : Int) a.length = true := inRange_iff.2 ⟨by omega, by omega⟩
    have r2 : inRange (j : Int) b.length = true := inRange_iff.2 ⟨by omega, by omega⟩
    have e2 : IntKind.i64.wrap ((j : Int) + 1) = ((j + 1 : Nat) : Int) := by rw [wrapI64 (by omega) (by omega)]; rfl
    have ga : a.getD j 0 = a[j] := by simp [hlt]
    have gb : b.getD j 0 = b[j]'(by omega) := by simp [show j < b.length by omega]
    simp only [Int.ofNat_eq_natCast, Int.toNat_natCast, r1, r2, ga, gb]
    simp only [true_implies, Bool.true_eq_false, false_implies, and_true]
    refine ⟨fun q => ?_, fun q => ?_⟩
    · have : a ≠ b := fun e => by subst e; simp at q
      simp [decO, decA, decTup, decMach, decCore, decTrap, decInstr, decPart, decGuest, decConf, decEvent, decVcpu, decStep, bytesS, boolS, eventsS, intsS, guestsS, vcpusS, rowS, castL, Option.bind_some, Option.map_some, Option.some.injEq, Nat.beq_refl, beq_self_eq_true, Bool.and_self, cond_true, cond_false, eq_self, this]
    · have q : a[j] = b[j]'(by omega) := by simpa using q
      refine ⟨j + 1, by rw [e2], rfl, ⟨by omega, ?_⟩, by show a.length - (j + 1) < a.length - j; omega⟩
      rw [List.take_succ_eq_append_getElem hlt, List.take_succ_eq_append_getElem (show j < b.length by omega), he, q]
  · have : j = a.length := by simp at h; omega
    subst this
    have : a = b := by rw [List.take_length] at he; rw [hl, List.take_length] at he; exact he
    simp [decO, decA, decTup, decMach, decCore, decTrap, decInstr, decPart, decGuest, decConf, decEvent, decVcpu, decStep, bytesS, boolS, eventsS, intsS, guestsS, vcpusS, rowS, castL, Option.bind_some, Option.map_some, Option.some.injEq, Nat.beq_refl, beq_self_eq_true, Bool.and_self, cond_true, cond_false, eq_self, this]
  
theorem c_ref05_Same : SpecOk EB 12 S_ref05_Same := spec_sigL ok_ref05_Same (n := 60) (fun (a, b, _) => fun _ => some (L_ref05_Same a b)) fun ⟨a, b, ⟨⟩⟩ h hok => a_ref05_Same a b (ok_bytes (okSL_head hok)) (ok_bytes (okSL_head (okSL_tail hok)))
end

/-! ref16_Events -/
@[reducible] def L_ref16_Events (a b : List PEvent) : LoopSpec where
  σ := Nat
  slots := [0, 1, 4, 5]
  keys := []
  vals := fun j => [.rd .event a, .rd .event b, .b false, .v (.int .i64 (j : Int))]
  blks := fun _ => []
  inv := fun j => j ≤ a.length ∧ a.take j = b.take j
  mu := fun j => a.length - j
def S_ref16_Events : Spec := sig [.rd .event, .rd .event] [.b] (fun (a, b, _) => decide (a = b))
noncomputable def E_ref16_Events : Env := EB.adds []

theorem ok_ref16_Events : EnvOk E_ref16_Events := okEB.adds (l := _) trivial

theorem t_ref16_Events (a : List PEvent) (b : List PEvent) : evFL E_ref16_Events (fun _ => some (L_ref16_Events a b)) 60 28 (encArgs [.rd .event, .rd .event] (a, b, ())) = 
  bif (bne (Int.ofNat (List.length a)) (Int.ofNat (List.length b))) then
    (Tree.leaf (SV.b false))
  else
    (Tree.loop 0 (L_ref16_Events a b) [(SV.rd ETy.event a), (SV.rd ETy.event b), (SV.b false), (SV.v (Value.int IntKind.i64 (0 : Int)))] [] fun (x0 : Nat) =>
    (bif (decide ((Int.ofNat x0) < (Int.ofNat (List.length a)))) then
      (bif (inRange (Int.ofNat x0) (List.length a)) then
        (bif (inRange (Int.ofNat x0) (List.length b)) then
          (bif (Bool.not (Bool.and (BEq.beq (List.getD a (Int.toNat (Int.ofNat x0)) (PEvent.mk (0 : Int) (0 : Int) (0 : Int))).kind (List.getD b (Int.toNat (Int.ofNat x0)) (PEvent.mk (0 : Int) (0 : Int) (0 : Int))).kind) (Bool.and (BEq.beq (List.getD a (Int.toNat (Int.ofNat x0)) (PEvent.mk (0 : Int) (0 : Int) (0 : Int))).at_ (List.getD b (Int.toNat (Int.ofNat x0)) (PEvent.mk (0 : Int) (0 : Int) (0 : Int))).at_) (Bool.and (BEq.beq (List.getD a (Int.toNat (Int.ofNat x0)) (PEvent.mk (0 : Int) (0 : Int) (0 : Int))).time (List.getD b (Int.toNat (Int.ofNat x0)) (PEvent.mk (0 : Int) (0 : Int) (0 : Int))).time) true)))) then
            (Tree.leaf (SV.b false))
          else
            ((Tree.next 0 [(SV.rd ETy.event a), (SV.rd ETy.event b), (SV.b false), (SV.v (Value.int IntKind.i64 (IntKind.wrap IntKind.i64 ((Int.ofNat x0) + (1 : Int)))))] [])))
        else
          (Tree.fail))
      else
        (Tree.fail))
    else
      (Tree.leaf (SV.b true)))) := by kernel_rfl
section
attribute [local irreducible] evF evFL
theorem a_ref16_Events (a : List PEvent) (b : List PEvent) (ok_a : okEvents a) (ok_b : okEvents b) : (evFL E_ref16_Events (fun _ => some (L_ref16_Events a b)) 60 28 (encArgs [.rd .event, .rd .event] (a, b, ()))).ends fun out_ => decO [.b] out_ = some (decide (a = b)) := by
  rw [t_ref16_Events, Tree.ends_holds]
  simp only [Tree.holds_cond, Tree.holds_leaf, Tree.holds_loop]
  refine ⟨fun h => ?_, fun h => ?_⟩
  · have h : ¬ ((a.length : Int) = (b.length : Int)) := by simpa using h
    have : a ≠ b := fun e => h (by rw [e])
    simp [decO, decA, decTup, decMach, decCore, decTrap, decInstr, decPart, decGuest, decConf, decEvent, decVcpu, decStep, bytesS, boolS, eventsS, intsS, guestsS, vcpusS, rowS, castL, Option.bind_some, Option.map_some, Option.some.injEq, Nat.beq_refl, beq_self_eq_true, Bool.and_self, cond_true, cond_false, eq_self, this]
  have hl : (a.length : Int) = (b.length : Int) := by simpa using h
  have hl : a.length = b.length := by omega
  have hlim : a.length ≤ 140737488355328 := ok_a.1
  refine ⟨⟨(0 : Nat), rfl, rfl, ⟨Nat.zero_le _, rfl⟩, trivial⟩, fun (j : Nat) ⟨hj, he⟩ => ?_⟩
  simp only [Tree.holds_loop, Tree.holds_fork, Tree.holds_next, if_true, Tree.holds_cond, Tree.holds_letv, Tree.holds_leaf, Tree.holds_fail]
  refine ⟨fun h => ?_, fun h => ?_⟩
  · have hlt : j < a.length := by simpa using h
    have r1 : inRange (j : Int) a.length = true := inRange_iff.2 ⟨by omega, by omega⟩
    have r2 : inRange (j : Int) b.length = true := inRange_iff.2 ⟨by omega, by omega⟩
    have e2 : IntKind.i64.wrap ((j : Int) + 1) = ((j + 1 : Nat) : Int) := by rw [wrapI64 (by omega) (by omega)]; rfl
    have ga : a.getD j ⟨0, 0, 0⟩ = a[j] := by simp [hlt]
    have gb : b.getD j ⟨0, 0, 0⟩ = b[j]'(by omega) := by simp [show j < b.length by omega]
    simp only [Int.ofNat_eq_natCast, Int.toNat_natCast, r1, r2, ga, gb]
    simp only [true_implies, Bool.true_eq_false, false_implies, and_true]
    have hq : ((a[j].kind == (b[j]'(by omega)).kind && (a[j].at_ == (b[j]'(by omega)).at_ && a[j].time == (b[j]'(by omega)).time)) = true) ↔ a[j] = b[j]'(by omega) := by
      simp only [Bool.and_eq_true, beq_iff_eq]
      constructor
      · rintro ⟨q1, q2, q3⟩
        cases hx : a[j]; cases hy : b[j]'(by omega); simp_all
      · intro h; rw [h]; simp
    refine ⟨fun q => ?_, fun q => ?_⟩
    · have : a ≠ b := fun e => by subst e; simp at q
      simp [decO, decA, decTup, decMach, decCore, decTrap, decInstr, decPart, decGuest, decConf, decEvent, decVcpu, decStep, bytesS, boolS, eventsS, intsS, guestsS, vcpusS, rowS, castL, Option.bind_some, Option.map_some, Option.some.injEq, Nat.beq_refl, beq_self_eq_true, Bool.and_self, cond_true, cond_false, eq_self, this]
    · have q : a[j] = b[j]'(by omega) := hq.1 (by simpa using q)
      refine ⟨j + 1, by rw [e2], rfl, ⟨by omega, ?_⟩, by show a.length - (j + 1) < a.length - j; omega⟩
      rw [List.take_succ_eq_append_getElem hlt, List.take_succ_eq_append_getElem (show j < b.length by omega), he, q]
  · have : j = a.length := by simp at h; omega
    subst this
    have : a = b := by rw [List.take_length] at he; rw [hl, List.take_length] at he; exact he
    simp [decO, decA, decTup, decMach, decCore, decTrap, decInstr, decPart, decGuest, decConf, decEvent, decVcpu, decStep, bytesS, boolS, eventsS, intsS, guestsS, vcpusS, rowS, castL, Option.bind_some, Option.map_some, Option.some.injEq, Nat.beq_refl, beq_self_eq_true, Bool.and_self, cond_true, cond_false, eq_self, this]
  
theorem c_ref16_Events : SpecOk EB 28 S_ref16_Events := spec_sigL ok_ref16_Events (n := 60) (fun (a, b, _) => fun _ => some (L_ref16_Events a b)) fun ⟨a, b, ⟨⟩⟩ h hok => a_ref16_Events a b (ok_events (okSL_head hok)) (ok_events (okSL_head (okSL_tail hok)))
end

/-! ref16_Same -/

def S_ref16_Same : Spec := sig [.vcpu, .vcpu] [.b] (fun (a, b, _) => decide (a = b))
noncomputable def E_ref16_Same : Env := EB.adds [(12, S_ref05_Same), (28, S_ref16_Events)]

theorem ok_ref16_Same : EnvOk E_ref16_Same := okEB.adds (l := _) ⟨c_ref05_Same, c_ref16_Events, trivial⟩

theorem t_ref16_Same (a : PVcpu) (b : PVcpu) : evF E_ref16_Same 60 16 (encArgs [.vcpu, .vcpu] (a, b, ())) = 
  bif (Bool.and (decide (a.core.regs = b.core.regs)) (Bool.and (BEq.beq a.core.pc b.core.pc) (Bool.and (decide (a.core.csr = b.core.csr)) true))) then
    (bif a.halted then
      (bif b.halted then
        (bif (BEq.beq a.done b.done) then
          (Tree.letv (okO [AT.b]) (decide (a.out = b.out)) fun x0 =>
          (bif x0 then
            (Tree.letv (okO [AT.b]) (decide (a.log = b.log)) fun x1 =>
            (bif x1 then
              (Tree.leaf (SV.b true))
            else
              (Tree.leaf (SV.b false))))
          else
            (Tree.leaf (SV.b false))))
        else
          (Tree.leaf (SV.b false)))
      else
        (Tree.leaf (SV.b false)))
    else
      (bif b.halted then
        (Tree.leaf (SV.b false))
      else
        (bif (BEq.beq a.done b.done) then
          (Tree.letv (okO [AT.b]) (decide (a.out = b.out)) fun x0 =>
          (bif x0 then
            (Tree.letv (okO [AT.b]) (decide (a.log = b.log)) fun x1 =>
            (bif x1 then
              (Tree.leaf (SV.b true))
            else
              (Tree.leaf (SV.b false))))
          else
            (Tree.leaf (SV.b false))))
        else
          (Tree.leaf (SV.b false)))))
  else
    (Tree.leaf (SV.b false)) := by kernel_rfl
section
attribute [local irreducible] evF evFL
theorem a_ref16_Same (a : PVcpu) (b : PVcpu) (ok_a : okVcpu a) (ok_b : okVcpu b) : (evF E_ref16_Same 60 16 (encArgs [.vcpu, .vcpu] (a, b, ()))).ends fun out_ => decO [.b] out_ = some (decide (a = b)) := by
  rw [t_ref16_Same, Tree.ends_holds]
  simp only [Tree.holds_loop, Tree.holds_fork, Tree.holds_next, if_true, Tree.holds_cond, Tree.holds_letv, Tree.holds_leaf, Tree.holds_fail, decO, decA, decTup, decMach, decCore, decTrap, decInstr, decPart, decGuest, decConf, decEvent, decVcpu, decStep, bytesS, boolS, eventsS, intsS, guestsS, vcpusS, rowS, castL, Option.bind_some, Option.map_some, Option.some.injEq, Nat.beq_refl, beq_self_eq_true, Bool.and_self, cond_true, cond_false, eq_self]
  have key : a = b ↔ (a.core.regs = b.core.regs ∧ a.core.pc = b.core.pc ∧ a.core.csr = b.core.csr ∧ a.halted = b.halted ∧ a.done = b.done ∧ a.out = b.out ∧ a.log = b.log) := by
    constructor
    · rintro rfl; simp
    · rintro ⟨h1, h2, h3, h4, h5, h6, h7⟩; exact vcpu_ext (core_ext h1 h2 h3) h6 h4 h5 h7
  simp only [key]
  repeat' (first | refine drop_ok ?_ | intro _ | with_reducible apply And.intro)
  all_goals simp_all
  
theorem c_ref16_Same : SpecOk EB 16 S_ref16_Same := spec_sig ok_ref16_Same (n := 60) fun ⟨a, b, ⟨⟩⟩ h hok => a_ref16_Same a b (ok_vcpu (okSL_head hok)) (ok_vcpu (okSL_head (okSL_tail hok)))
end

/-! law21_awake -/

def S_law21_awake : Spec := sig [] [.b] (fun _ => true)
noncomputable def E_law21_awake : Env := EB_0_1.adds [(14, S_handler_Handle), (16, S_ref16_Same), (13, S_handler_IsMonitorTrap)]

theorem ok_law21_awake : EnvOk E_law21_awake := okEB_0_1.adds (l := _) ⟨c_handler_Handle, (up_to_0_1 c_ref16_Same), (up_to_0_1 c_handler_IsMonitorTrap), trivial⟩
theorem t_c_law21_awake : (evF E_law21_awake 60 4 []).inst = .leaf (.b true) := by kernel_rfl
theorem c_law21_awake : SpecOk EB_0_1 4 S_law21_awake := spec_sig ok_law21_awake (n := 60) fun _ _ _ => Tree.of_inst (Q := .of _) (by
  show ((evF E_law21_awake 60 4 []).inst).holds _
  rw [t_c_law21_awake]; exact rfl)


/-! ref10_Few -/

def S_ref10_Few : Spec := sig [.mach] [.b] (fun (m, _) => K.few m)
noncomputable def E_ref10_Few : Env := EB.adds []

theorem ok_ref10_Few : EnvOk E_ref10_Few := okEB.adds (l := _) trivial

theorem t_ref10_Few (m : PMach) : evF E_ref10_Few 60 5 (encArgs [.mach] (m, ())) = 
  bif (decide ((Int.ofNat (List.length m.mem)) ≤ (600 : Int))) then
    (bif (decide ((Int.ofNat (List.length m.out)) ≤ (600 : Int))) then
      (Tree.leaf (SV.b true))
    else
      (Tree.leaf (SV.b false)))
  else
    (Tree.leaf (SV.b false)) := by kernel_rfl
section
attribute [local irreducible] evF evFL
theorem a_ref10_Few (m : PMach) (ok_m : okMach m) : (evF E_ref10_Few 60 5 (encArgs [.mach] (m, ()))).ends fun out_ => decO [.b] out_ = some (K.few m) := by
  rw [t_ref10_Few, Tree.ends_holds]
  simp only [Tree.holds_loop, Tree.holds_fork, Tree.holds_next, if_true, Tree.holds_cond, Tree.holds_letv, Tree.holds_leaf, Tree.holds_fail, decO, decA, decTup, decMach, decCore, decTrap, decInstr, decPart, decGuest, decConf, decEvent, decVcpu, decStep, bytesS, boolS, eventsS, intsS, guestsS, vcpusS, rowS, castL, Option.bind_some, Option.map_some, Option.some.injEq, Nat.beq_refl, beq_self_eq_true, Bool.and_self, cond_true, cond_false, eq_self, beq_iff_eq, beq_eq_false_iff_ne, bne_iff_ne, bne_eq_false_iff_eq, ne_eq, decide_eq_true_eq, decide_eq_false_iff_not, ble_true, ble_false, inRange_iff, inRange_false]
  repeat' (first | refine drop_ok ?_ | intro _ | with_reducible apply And.intro)
  all_goals (first | omega | (simp_all [K.few]; done) | (simp_all [K.few] <;> omega) | simp_all [K.few])
  
theorem c_ref10_Few : SpecOk EB 5 S_ref10_Few := spec_sig ok_ref10_Few (n := 60) fun ⟨m, ⟨⟩⟩ h hok => a_ref10_Few m (ok_mach (okSL_head hok))
end

/-! ref16_Few -/

def S_ref16_Few : Spec := sig [.vcpu] [.b] (fun (v, _) => K.vfew v)
noncomputable def E_ref16_Few : Env := EB.adds []

theorem ok_ref16_Few : EnvOk E_ref16_Few := okEB.adds (l := _) trivial

theorem t_ref16_Few (v : PVcpu) : evF E_ref16_Few 60 6 (encArgs [.vcpu] (v, ())) = 
  bif (decide ((Int.ofNat (List.length v.out)) ≤ (600 : Int))) then
    (bif (decide ((Int.ofNat (List.length v.log)) ≤ (600 : Int))) then
      (Tree.leaf (SV.b true))
    else
      (Tree.leaf (SV.b false)))
  else
    (Tree.leaf (SV.b false)) := by kernel_rfl
section
attribute [local irreducible] evF evFL
theorem a_ref16_Few (v : PVcpu) (ok_v : okVcpu v) : (evF E_ref16_Few 60 6 (encArgs [.vcpu] (v, ()))).ends fun out_ => decO [.b] out_ = some (K.vfew v) := by
  rw [t_ref16_Few, Tree.ends_holds]
  simp only [Tree.holds_loop, Tree.holds_fork, Tree.holds_next, if_true, Tree.holds_cond, Tree.holds_letv, Tree.holds_leaf, Tree.holds_fail, decO, decA, decTup, decMach, decCore, decTrap, decInstr, decPart, decGuest, decConf, decEvent, decVcpu, decStep, bytesS, boolS, eventsS, intsS, guestsS, vcpusS, rowS, castL, Option.bind_some, Option.map_some, Option.some.injEq, Nat.beq_refl, beq_self_eq_true, Bool.and_self, cond_true, cond_false, eq_self, beq_iff_eq, beq_eq_false_iff_ne, bne_iff_ne, bne_eq_false_iff_eq, ne_eq, decide_eq_true_eq, decide_eq_false_iff_not, ble_true, ble_false, inRange_iff, inRange_false]
  repeat' (first | refine drop_ok ?_ | intro _ | with_reducible apply And.intro)
  all_goals (first | omega | (simp_all [K.vfew]; done) | (simp_all [K.vfew] <;> omega) | simp_all [K.vfew])
  
theorem c_ref16_Few : SpecOk EB 6 S_ref16_Few := spec_sig ok_ref16_Few (n := 60) fun ⟨v, ⟨⟩⟩ h hok => a_ref16_Few v (ok_vcpu (okSL_head hok))
end

/-! ref05_Cut -/
@[reducible] def L_ref05_Cut (m : List Int) (a size : Int) : LoopSpec where
  σ := Nat
  slots := [0, 1, 2, 8, 9]
  keys := [8]
  vals := fun j => [.rd .u8 m, .v (.int .u32 a), .v (.int .u32 size), .own 0, .v (.int .i64 (j : Int))]
  blks := fun j => [.row .u8 ((m.drop a.toNat).take j) 5]
  inv := fun j => (j : Int) ≤ size ∧ a + size ≤ m.length
  mu := fun j => size.toNat - j
  nils := [(8, .u8, 5)]
def S_ref05_Cut : Spec := sig [.rd .u8, .i .u32, .i .u32] [.rd .u8, .b] (fun (m, a, size, _) => if a + size ≤ m.length then ((m.drop a.toNat).take size.toNat, true) else ([], false)) (pre := fun (m, a, size, _) => decide (m.length ≤ 1099511627776))
noncomputable def E_ref05_Cut : Env := EB.adds []

theorem ok_ref05_Cut : EnvOk E_ref05_Cut := okEB.adds (l := _) trivial

theorem t_ref05_Cut (m : List Int) (a : Int) (size : Int) : evFL E_ref05_Cut (fun _ => some (L_ref05_Cut m a size)) 60 11 (encArgs [.rd .u8, .i .u32, .i .u32] (m, a, size, ())) = 
  bif (decide ((IntKind.wrap IntKind.i64 ((IntKind.wrap IntKind.i64 a) + (IntKind.wrap IntKind.i64 size))) > (Int.ofNat (List.length m)))) then
    (Tree.leaf (SV.tup [(SV.v (Value.slice Option.none 0 0)), (SV.b false)]))
  else
    (Tree.loop 0 (L_ref05_Cut m a size) [(SV.rd ETy.u8 m), (SV.v (Value.int IntKind.u32 a)), (SV.v (Value.int IntKind.u32 size)), (SV.own 0), (SV.v (Value.int IntKind.i64 (0 : Int)))] [(Blk.row ETy.u8 [] 5)] fun (x0 : Nat) =>
    (bif (decide ((Int.ofNat x0) < (IntKind.wrap IntKind.i64 size))) then
      (bif (inRange (IntKind.wrap IntKind.i64 ((IntKind.wrap IntKind.i64 a) + (Int.ofNat x0))) (List.length m)) then
        (bif (Nat.ble (((List.length (List.take x0 (List.drop (Int.toNat a) m))) + 1) * 1) 140737488355328) then
          ((Tree.next 0 [(SV.rd ETy.u8 m), (SV.v (Value.int IntKind.u32 a)), (SV.v (Value.int IntKind.u32 size)), (SV.own 0), (SV.v (Value.int IntKind.i64 (IntKind.wrap IntKind.i64 ((Int.ofNat x0) + (1 : Int)))))] [(Blk.row ETy.u8 (List.append (List.take x0 (List.drop (Int.toNat a) m)) [(List.getD m (Int.toNat (IntKind.wrap IntKind.i64 ((IntKind.wrap IntKind.i64 a) + (Int.ofNat x0)))) (0 : Int))]) 5)]))
        else
          (Tree.fail))
      else
        (Tree.fail))
    else
      (Tree.leaf (SV.tup [(SV.rd ETy.u8 (List.take x0 (List.drop (Int.toNat a) m))), (SV.b true)])))) := by kernel_rfl
section
attribute [local irreducible] evF evFL
theorem a_ref05_Cut (m : List Int) (a : Int) (size : Int) (hpre : m.length ≤ 1099511627776) (ok_m : okBytes m) (ok_a : okI .u32 a) (ok_size : okI .u32 size) : (evFL E_ref05_Cut (fun _ => some (L_ref05_Cut m a size)) 60 11 (encArgs [.rd .u8, .i .u32, .i .u32] (m, a, size, ()))).ends fun out_ => decO [.rd .u8, .b] out_ = some (if a + size ≤ m.length then ((m.drop a.toNat).take size.toNat, true) else ([], false)) := by
  rw [t_ref05_Cut, Tree.ends_holds]
  obtain ⟨a0, a1⟩ := okI_u32 ok_a
  obtain ⟨s0, s1⟩ := okI_u32 ok_size
  have w1 : IntKind.i64.wrap a = a := wrapI64 (by omega) (by omega)
  have w2 : IntKind.i64.wrap size = size := wrapI64 (by omega) (by omega)
  have w3 : IntKind.i64.wrap (a + size) = a + size := wrapI64 (by omega) (by omega)
  have w4 : ∀ j : Nat, (j : Int) < size → IntKind.i64.wrap (a + (j : Int)) = a + j := fun j h => wrapI64 (by omega) (by omega)
  have w5 : ∀ j : Nat, (j : Int) < size → IntKind.i64.wrap ((j : Int) + 1) = ((j + 1 : Nat) : Int) := fun j h => by rw [wrapI64 (by omega) (by omega)]; rfl
  simp only [Tree.holds_loop, Tree.holds_fork, Tree.holds_next, if_true, Tree.holds_cond, Tree.holds_letv, Tree.holds_leaf, Tree.holds_fail, decO, decA, decTup, decMach, decCore, decTrap, decInstr, decPart, decGuest, decConf, decEvent, decVcpu, decStep, bytesS, boolS, eventsS, intsS, guestsS, vcpusS, rowS, castL, Option.bind_some, Option.map_some, Option.some.injEq, Nat.beq_refl, beq_self_eq_true, Bool.and_self, cond_true, cond_false, eq_self, beq_iff_eq, beq_eq_false_iff_ne, bne_iff_ne, bne_eq_false_iff_eq, ne_eq, decide_eq_true_eq, decide_eq_false_iff_not, ble_true, ble_false, inRange_iff, inRange_false, Int.ofNat_eq_natCast, Int.toNat_natCast, w1, w2, w3]
  by_cases hf : a + size ≤ m.length
  · rw [if_pos hf]
    refine ⟨fun h => by omega, fun _ => ⟨⟨(0 : Nat), rfl, rfl, ⟨s0, hf⟩, trivial⟩, fun (x : Nat) hx => ⟨fun h => ?_, fun h => ?_⟩⟩⟩
    · rw [w4 x h, w5 x h]
      refine ⟨fun _ => ⟨fun _ => ⟨x + 1, rfl, ?_, ⟨by show ((x + 1 : Nat) : Int) ≤ size; omega, hf⟩, by show size.toNat - (x + 1) < size.toNat - x; omega⟩, fun q => ?_⟩, fun q => by omega⟩
      · show [Blk.row ETy.u8 (List.append (List.take x (List.drop a.toNat m)) [m.getD (a + (x : Int)).toNat 0]) 5] = [Blk.row ETy.u8 (List.take (x + 1) (List.drop a.toNat m)) 5]
        congr 2
        have hlt : x < (List.drop a.toNat m).length := by rw [List.length_drop]; omega
        rw [List.take_succ_eq_append_getElem hlt, List.append_eq, List.getElem_drop, List.getD_eq_getElem?_getD, List.getElem?_eq_getElem (by omega)]
        congr 2
        simp only [Option.getD_some]
        congr 1; omega
      · rw [List.length_take, List.length_drop] at q; omega
    · have : x = size.toNat := by omega
      rw [this]
  · rw [if_neg hf]
    exact ⟨fun _ => rfl, fun h => absurd (by omega) hf⟩
  
theorem c_ref05_Cut : SpecOk EB 11 S_ref05_Cut := spec_sigL ok_ref05_Cut (n := 60) (fun (m, a, size, _) => fun _ => some (L_ref05_Cut m a size)) fun ⟨m, a, size, ⟨⟩⟩ h hok => a_ref05_Cut m a size (of_decide_eq_true h) (ok_bytes (okSL_head hok)) (ok_int (okSL_head (okSL_tail hok))) (ok_int (okSL_head (okSL_tail (okSL_tail hok))))
end

/-! law21_alone -/

def S_law21_alone : Spec := sig [.mach, .vcpu, .part] [.mach] (fun (host, v, p, _) => if p.base + p.size ≤ host.mem.length then K.bare host v p host.time else { core := v.core, mem := [], time := host.time, out := v.out, halted := v.halted }) (pre := fun (host, v, p, _) => decide (host.mem.length ≤ 1099511627776))
noncomputable def E_law21_alone : Env := EB.adds [(11, S_ref05_Cut)]

theorem ok_law21_alone : EnvOk E_law21_alone := okEB.adds (l := _) ⟨c_ref05_Cut, trivial⟩

theorem t_law21_alone (host : PMach) (v : PVcpu) (p : PPart) : evF E_law21_alone 60 7 (encArgs [.mach, .vcpu, .part] (host, v, p, ())) = 
  bif (decide ((List.length host.mem) ≤ 1099511627776)) then
    (Tree.letv (okO [(AT.rd ETy.u8), AT.b]) (if ((p.base + p.size) ≤ (Int.ofNat (List.length host.mem))) then ((List.take (Int.toNat p.size) (List.drop (Int.toNat p.base) host.mem)), true) else ([], false)) fun x0 =>
    (bif x0.snd then
      (bif v.halted then
        (Tree.leaf (SV.agg [(SV.arr IntKind.u32 16 v.core.regs), (SV.v (Value.int IntKind.u32 v.core.pc)), (SV.arr IntKind.u32 12 v.core.csr), (SV.rd ETy.u8 x0.fst), (SV.v (Value.int IntKind.u64 host.time)), (SV.rd ETy.u8 v.out), (SV.b true)]))
      else
        (Tree.leaf (SV.agg [(SV.arr IntKind.u32 16 v.core.regs), (SV.v (Value.int IntKind.u32 v.core.pc)), (SV.arr IntKind.u32 12 v.core.csr), (SV.rd ETy.u8 x0.fst), (SV.v (Value.int IntKind.u64 host.time)), (SV.rd ETy.u8 v.out), (SV.b false)])))
    else
      (bif v.halted then
        (Tree.leaf (SV.agg [(SV.arr IntKind.u32 16 v.core.regs), (SV.v (Value.int IntKind.u32 v.core.pc)), (SV.arr IntKind.u32 12 v.core.csr), (SV.rd ETy.u8 x0.fst), (SV.v (Value.int IntKind.u64 host.time)), (SV.rd ETy.u8 v.out), (SV.b true)]))
      else
        (Tree.leaf (SV.agg [(SV.arr IntKind.u32 16 v.core.regs), (SV.v (Value.int IntKind.u32 v.core.pc)), (SV.arr IntKind.u32 12 v.core.csr), (SV.rd ETy.u8 x0.fst), (SV.v (Value.int IntKind.u64 host.time)), (SV.rd ETy.u8 v.out), (SV.b false)])))))
  else
    (Tree.fail) := by kernel_rfl
section
attribute [local irreducible] evF evFL
theorem a_law21_alone (host : PMach) (v : PVcpu) (p : PPart) (hpre : host.mem.length ≤ 1099511627776) (ok_host : okMach host) (ok_v : okVcpu v) (ok_p : okPart p) : (evF E_law21_alone 60 7 (encArgs [.mach, .vcpu, .part] (host, v, p, ()))).ends fun out_ => decO [.mach] out_ = some (if p.base + p.size ≤ host.mem.length then K.bare host v p host.time else { core := v.core, mem := [], time := host.time, out := v.out, halted := v.halted }) := by
  rw [t_law21_alone, Tree.ends_holds]
  simp only [Tree.holds_loop, Tree.holds_fork, Tree.holds_next, if_true, Tree.holds_cond, Tree.holds_letv, Tree.holds_leaf, Tree.holds_fail, decO, decA, decTup, decMach, decCore, decTrap, decInstr, decPart, decGuest, decConf, decEvent, decVcpu, decStep, bytesS, boolS, eventsS, intsS, guestsS, vcpusS, rowS, castL, Option.bind_some, Option.map_some, Option.some.injEq, Nat.beq_refl, beq_self_eq_true, Bool.and_self, cond_true, cond_false, eq_self, beq_iff_eq, beq_eq_false_iff_ne, bne_iff_ne, bne_eq_false_iff_eq, ne_eq, decide_eq_true_eq, decide_eq_false_iff_not, ble_true, ble_false, inRange_iff, inRange_false, Int.ofNat_eq_natCast]
  by_cases hf : p.base + p.size ≤ (host.mem.length : Int)
  · simp only [if_pos hf]
    repeat' (first | refine drop_ok ?_ | intro _ | with_reducible apply And.intro)
    all_goals first
      | (exfalso; omega)
      | (unfold K.bare; rename_i hq; rw [hq]; done)
      | (rename_i hq; exact Bool.noConfusion hq)
      | (unfold K.bare; rename_i _ hq; rw [hq]; done)
  · simp only [if_neg hf]
    repeat' (first | refine drop_ok ?_ | intro _ | with_reducible apply And.intro)
    all_goals first
      | (exfalso; omega)
      | (rename_i hq; rw [hq]; done)
  
theorem c_law21_alone : SpecOk EB 7 S_law21_alone := spec_sig ok_law21_alone (n := 60) fun ⟨host, v, p, ⟨⟩⟩ h hok => a_law21_alone host v p (of_decide_eq_true h) (ok_mach (okSL_head hok)) (ok_vcpu (okSL_head (okSL_tail hok))) (ok_part (okSL_head (okSL_tail (okSL_tail hok))))
end

/-! ref06_By -/

def S_ref06_By : Spec := sig [.i .u32, .i .u32, .i .u32, .i .u32, .i .i64] [.i .u32, .b] (fun (base, bound, size, a, n, _) => K.reloc base bound size a n) (pre := fun (base, bound, size, a, n, _) => decide (0 ≤ n ∧ n ≤ 1099511627776))
noncomputable def E_ref06_By : Env := EB.adds []

theorem ok_ref06_By : EnvOk E_ref06_By := okEB.adds (l := _) trivial

theorem t_ref06_By (base : Int) (bound : Int) (size : Int) (a : Int) (n : Int) : evF E_ref06_By 60 123 (encArgs [.i .u32, .i .u32, .i .u32, .i .u32, .i .i64] (base, bound, size, a, n, ())) = 
  bif (decide ((IntKind.wrap IntKind.i64 ((IntKind.wrap IntKind.i64 a) + n)) > (IntKind.wrap IntKind.i64 bound))) then
    (Tree.leaf (SV.tup [(SV.v (Value.int IntKind.u32 (0 : Int))), (SV.b false)]))
  else
    (bif (decide ((IntKind.wrap IntKind.i64 ((IntKind.wrap IntKind.i64 base) + (IntKind.wrap IntKind.i64 ((IntKind.wrap IntKind.i64 a) + n)))) > (IntKind.wrap IntKind.i64 size))) then
      (Tree.leaf (SV.tup [(SV.v (Value.int IntKind.u32 (0 : Int))), (SV.b false)]))
    else
      (Tree.leaf (SV.tup [(SV.v (Value.int IntKind.u32 (IntKind.wrap IntKind.u32 (IntKind.wrap IntKind.i64 ((IntKind.wrap IntKind.i64 base) + (IntKind.wrap IntKind.i64 a)))))), (SV.b true)]))) := by kernel_rfl
section
attribute [local irreducible] evF evFL
theorem a_ref06_By (base : Int) (bound : Int) (size : Int) (a : Int) (n : Int) (hpre : 0 ≤ n ∧ n ≤ 1099511627776) (ok_base : okI .u32 base) (ok_bound : okI .u32 bound) (ok_size : okI .u32 size) (ok_a : okI .u32 a) (ok_n : okI .i64 n) : (evF E_ref06_By 60 123 (encArgs [.i .u32, .i .u32, .i .u32, .i .u32, .i .i64] (base, bound, size, a, n, ()))).ends fun out_ => decO [.i .u32, .b] out_ = some (K.reloc base bound size a n) := by
  rw [t_ref06_By, Tree.ends_holds]
  obtain ⟨a0, a1⟩ := okI_u32 ok_a
  obtain ⟨b0, b1⟩ := okI_u32 ok_base
  obtain ⟨c0, c1⟩ := okI_u32 ok_bound
  obtain ⟨d0, d1⟩ := okI_u32 ok_size
  have e1 : IntKind.i64.wrap a = a := wrapI64 (by omega) (by omega)
  have e3 : IntKind.i64.wrap size = size := wrapI64 (by omega) (by omega)
  have e4 : IntKind.i64.wrap (a + n) = a + n := wrapI64 (by omega) (by omega)
  have e5 : IntKind.i64.wrap base = base := wrapI64 (by omega) (by omega)
  have e6 : IntKind.i64.wrap bound = bound := wrapI64 (by omega) (by omega)
  have e7 : IntKind.i64.wrap (base + (a + n)) = base + (a + n) := wrapI64 (by omega) (by omega)
  have e8 : IntKind.i64.wrap (base + a) = base + a := wrapI64 (by omega) (by omega)
  simp only [Tree.holds_loop, Tree.holds_fork, Tree.holds_next, if_true, Tree.holds_cond, Tree.holds_letv, Tree.holds_leaf, Tree.holds_fail, decO, decA, decTup, decMach, decCore, decTrap, decInstr, decPart, decGuest, decConf, decEvent, decVcpu, decStep, bytesS, boolS, eventsS, intsS, guestsS, vcpusS, rowS, castL, Option.bind_some, Option.map_some, Option.some.injEq, Nat.beq_refl, beq_self_eq_true, Bool.and_self, cond_true, cond_false, eq_self, beq_iff_eq, beq_eq_false_iff_ne, bne_iff_ne, bne_eq_false_iff_eq, ne_eq, decide_eq_true_eq, decide_eq_false_iff_not, ble_true, ble_false, inRange_iff, inRange_false, K.reloc, e1, e3, e4, e5, e6, e7, e8]
  repeat' (first | refine drop_ok ?_ | intro _ | with_reducible apply And.intro)
  all_goals first | (rw [if_neg (by omega)]; done) | (rw [if_pos (by omega), show IntKind.u32.wrap (base + a) = base + a by rw [wrap32]; omega])
  
theorem c_ref06_By : SpecOk EB 123 S_ref06_By := spec_sig ok_ref06_By (n := 60) fun ⟨base, bound, size, a, n, ⟨⟩⟩ h hok => a_ref06_By base bound size a n (of_decide_eq_true h) (ok_int (okSL_head hok)) (ok_int (okSL_head (okSL_tail hok))) (ok_int (okSL_head (okSL_tail (okSL_tail hok)))) (ok_int (okSL_head (okSL_tail (okSL_tail (okSL_tail hok))))) (ok_int (okSL_head (okSL_tail (okSL_tail (okSL_tail (okSL_tail hok))))))
end

/-! ref06_Super -/

def S_ref06_Super : Spec := sig [.core] [.b] (fun (c, _) => K.super c)
noncomputable def E_ref06_Super : Env := EB.adds []

theorem ok_ref06_Super : EnvOk E_ref06_Super := okEB.adds (l := _) trivial

theorem t_ref06_Super (c : PCore) : evF E_ref06_Super 60 15 (encArgs [.core] (c, ())) = 
  bif (BEq.beq (Int.tmod (List.getD c.csr 0 (0 : Int)) (2 : Int)) (1 : Int)) then
    (Tree.leaf (SV.b true))
  else
    (Tree.leaf (SV.b false)) := by kernel_rfl
section
attribute [local irreducible] evF evFL
theorem a_ref06_Super (c : PCore) (ok_c : okCore c) : (evF E_ref06_Super 60 15 (encArgs [.core] (c, ()))).ends fun out_ => decO [.b] out_ = some (K.super c) := by
  rw [t_ref06_Super, Tree.ends_holds]
  obtain ⟨s0, s1⟩ := ok_c.csr.u32 (i := 0) (by omega)
  simp only [Tree.holds_loop, Tree.holds_fork, Tree.holds_next, if_true, Tree.holds_cond, Tree.holds_letv, Tree.holds_leaf, Tree.holds_fail, decO, decA, decTup, decMach, decCore, decTrap, decInstr, decPart, decGuest, decConf, decEvent, decVcpu, decStep, bytesS, boolS, eventsS, intsS, guestsS, vcpusS, rowS, castL, Option.bind_some, Option.map_some, Option.some.injEq, Nat.beq_refl, beq_self_eq_true, Bool.and_self, cond_true, cond_false, eq_self, beq_iff_eq, beq_eq_false_iff_ne, bne_iff_ne, bne_eq_false_iff_eq, ne_eq, decide_eq_true_eq, decide_eq_false_iff_not, ble_true, ble_false, inRange_iff, inRange_false, K.super, Int.tmod_eq_emod_of_nonneg s0]
  repeat' (first | refine drop_ok ?_ | intro _ | with_reducible apply And.intro)
  all_goals simp_all
  
theorem c_ref06_Super : SpecOk EB 15 S_ref06_Super := spec_sig ok_ref06_Super (n := 60) fun ⟨c, ⟨⟩⟩ h hok => a_ref06_Super c (ok_core (okSL_head hok))
end

/-! ref06_At -/

def S_ref06_At : Spec := sig [.core, .i .u32, .i .u32, .i .i64] [.i .u32, .b] (fun (c, size, a, n, _) => K.trans c size a n) (pre := fun (c, size, a, n, _) => decide (0 ≤ n ∧ n ≤ 1099511627776))
noncomputable def E_ref06_At : Env := EB.adds [(123, S_ref06_By), (15, S_ref06_Super)]

theorem ok_ref06_At : EnvOk E_ref06_At := okEB.adds (l := _) ⟨c_ref06_By, c_ref06_Super, trivial⟩

theorem t_ref06_At (c : PCore) (size : Int) (a : Int) (n : Int) : evF E_ref06_At 60 102 (encArgs [.core, .i .u32, .i .u32, .i .i64] (c, size, a, n, ())) = 
  Tree.letv (okO [AT.b]) (K.super c) fun x0 =>
  (bif x0 then
    (bif (decide (And ((0 : Int) ≤ n) (n ≤ (1099511627776 : Int)))) then
      (Tree.letv (okO [(AT.i IntKind.u32), AT.b]) (K.reloc (0 : Int) size size a n) fun x1 =>
      (bif x1.snd then
        (Tree.leaf (SV.tup [(SV.v (Value.int IntKind.u32 x1.fst)), (SV.b true)]))
      else
        (Tree.leaf (SV.tup [(SV.v (Value.int IntKind.u32 x1.fst)), (SV.b false)]))))
    else
      (Tree.fail))
  else
    (bif (decide (And ((0 : Int) ≤ n) (n ≤ (1099511627776 : Int)))) then
      (Tree.letv (okO [(AT.i IntKind.u32), AT.b]) (K.reloc (List.getD c.csr 5 (0 : Int)) (List.getD c.csr 6 (0 : Int)) size a n) fun x1 =>
      (bif x1.snd then
        (Tree.leaf (SV.tup [(SV.v (Value.int IntKind.u32 x1.fst)), (SV.b true)]))
      else
        (Tree.leaf (SV.tup [(SV.v (Value.int IntKind.u32 x1.fst)), (SV.b false)]))))
    else
      (Tree.fail))) := by kernel_rfl
section
attribute [local irreducible] evF evFL
theorem a_ref06_At (c : PCore) (size : Int) (a : Int) (n : Int) (hpre : 0 ≤ n ∧ n ≤ 1099511627776) (ok_c : okCore c) (ok_size : okI .u32 size) (ok_a : okI .u32 a) (ok_n : okI .i64 n) : (evF E_ref06_At 60 102 (encArgs [.core, .i .u32, .i .u32, .i .i64] (c, size, a, n, ()))).ends fun out_ => decO [.i .u32, .b] out_ = some (K.trans c size a n) := by
  rw [t_ref06_At, Tree.ends_holds]
  simp only [Tree.holds_loop, Tree.holds_fork, Tree.holds_next, if_true, Tree.holds_cond, Tree.holds_letv, Tree.holds_leaf, Tree.holds_fail, decO, decA, decTup, decMach, decCore, decTrap, decInstr, decPart, decGuest, decConf, decEvent, decVcpu, decStep, bytesS, boolS, eventsS, intsS, guestsS, vcpusS, rowS, castL, Option.bind_some, Option.map_some, Option.some.injEq, Nat.beq_refl, beq_self_eq_true, Bool.and_self, cond_true, cond_false, eq_self, beq_iff_eq, beq_eq_false_iff_ne, bne_iff_ne, bne_eq_false_iff_eq, ne_eq, decide_eq_true_eq, decide_eq_false_iff_not, ble_true, ble_false, inRange_iff, inRange_false, K.trans]
  repeat' (first | refine drop_ok ?_ | intro _ | with_reducible apply And.intro)
  all_goals first | omega | (simp_all; done) | (simp_all; apply Prod.ext <;> simp_all; done)
  
theorem c_ref06_At : SpecOk EB 102 S_ref06_At := spec_sig ok_ref06_At (n := 60) fun ⟨c, size, a, n, ⟨⟩⟩ h hok => a_ref06_At c size a n (of_decide_eq_true h) (ok_core (okSL_head hok)) (ok_int (okSL_head (okSL_tail hok))) (ok_int (okSL_head (okSL_tail (okSL_tail hok)))) (ok_int (okSL_head (okSL_tail (okSL_tail (okSL_tail hok)))))
end

/-! ref10_Cell -/

def S_ref10_Cell : Spec := sig [.mach, .i .u32, .i .i64] [.i .u32, .trap] (fun (m, a, n, _) => K.cell m a n) (pre := fun (m, a, n, _) => decide (n = 1 ∨ n = 4))
noncomputable def E_ref10_Cell : Env := EB.adds [(102, S_ref06_At)]

theorem ok_ref10_Cell : EnvOk E_ref10_Cell := okEB.adds (l := _) ⟨c_ref06_At, trivial⟩

theorem t_ref10_Cell (m : PMach) (a : Int) (n : Int) : evF E_ref10_Cell 60 62 (encArgs [.mach, .i .u32, .i .i64] (m, a, n, ())) = 
  bif (BEq.beq n (4 : Int)) then
    (bif (bne (Int.tmod a (4 : Int)) (0 : Int)) then
      (Tree.leaf (SV.tup [(SV.v (Value.int IntKind.u32 (0 : Int))), (SV.agg [(SV.v (Value.int IntKind.i64 (4 : Int))), (SV.v (Value.int IntKind.u32 a))])]))
    else
      (bif (decide (And ((0 : Int) ≤ n) (n ≤ (1099511627776 : Int)))) then
        (Tree.letv (okO [(AT.i IntKind.u32), AT.b]) (K.trans m.core (IntKind.wrap IntKind.u32 (Int.ofNat (List.length m.mem))) a n) fun x0 =>
        (bif x0.snd then
          (Tree.leaf (SV.tup [(SV.v (Value.int IntKind.u32 x0.fst)), (SV.agg [(SV.v (Value.int IntKind.i64 (0 : Int))), (SV.v (Value.int IntKind.u32 (0 : Int)))])]))
        else
          (Tree.leaf (SV.tup [(SV.v (Value.int IntKind.u32 (0 : Int))), (SV.agg [(SV.v (Value.int IntKind.i64 (3 : Int))), (SV.v (Value.int IntKind.u32 a))])]))))
      else
        (Tree.fail)))
  else
    (bif (decide (And ((0 : Int) ≤ n) (n ≤ (1099511627776 : Int)))) then
      (Tree.letv (okO [(AT.i IntKind.u32), AT.b]) (K.trans m.core (IntKind.wrap IntKind.u32 (Int.ofNat (List.length m.mem))) a n) fun x0 =>
      (bif x0.snd then
        (Tree.leaf (SV.tup [(SV.v (Value.int IntKind.u32 x0.fst)), (SV.agg [(SV.v (Value.int IntKind.i64 (0 : Int))), (SV.v (Value.int IntKind.u32 (0 : Int)))])]))
      else
        (Tree.leaf (SV.tup [(SV.v (Value.int IntKind.u32 (0 : Int))), (SV.agg [(SV.v (Value.int IntKind.i64 (3 : Int))), (SV.v (Value.int IntKind.u32 a))])]))))
    else
      (Tree.fail)) := by kernel_rfl
section
attribute [local irreducible] evF evFL
theorem a_ref10_Cell (m : PMach) (a : Int) (n : Int) (hpre : n = 1 ∨ n = 4) (ok_m : okMach m) (ok_a : okI .u32 a) (ok_n : okI .i64 n) : (evF E_ref10_Cell 60 62 (encArgs [.mach, .i .u32, .i .i64] (m, a, n, ()))).ends fun out_ => decO [.i .u32, .trap] out_ = some (K.cell m a n) := by
  rw [t_ref10_Cell, Tree.ends_holds]
  obtain ⟨a0, a1⟩ := okI_u32 ok_a
  have hn : 1 ≤ n ∧ n ≤ 4 := by omega
  have e2 : Int.tmod a 4 = a % 4 := Int.tmod_eq_emod_of_nonneg a0
  have e3 : IntKind.u32.wrap (m.mem.length : Int) = (m.mem.length : Int) % 4294967296 := wrap32 _
  simp only [Tree.holds_loop, Tree.holds_fork, Tree.holds_next, if_true, Tree.holds_cond, Tree.holds_letv, Tree.holds_leaf, Tree.holds_fail, decO, decA, decTup, decMach, decCore, decTrap, decInstr, decPart, decGuest, decConf, decEvent, decVcpu, decStep, bytesS, boolS, eventsS, intsS, guestsS, vcpusS, rowS, castL, Option.bind_some, Option.map_some, Option.some.injEq, Nat.beq_refl, beq_self_eq_true, Bool.and_self, cond_true, cond_false, eq_self, beq_iff_eq, beq_eq_false_iff_ne, bne_iff_ne, bne_eq_false_iff_eq, ne_eq, decide_eq_true_eq, decide_eq_false_iff_not, ble_true, ble_false, inRange_iff, inRange_false, Int.ofNat_eq_natCast, e2, e3, K.cell]
  rcases hpre with h | h <;> subst h
  · have : a % 1 = 0 := by omega
    repeat' (first | refine drop_ok ?_ | intro _ | with_reducible apply And.intro)
    all_goals first | omega | (simp_all; done)
  · repeat' (first | refine drop_ok ?_ | intro _ | with_reducible apply And.intro)
    all_goals first | omega | (simp_all; done)
  
theorem c_ref10_Cell : SpecOk EB 62 S_ref10_Cell := spec_sig ok_ref10_Cell (n := 60) fun ⟨m, a, n, ⟨⟩⟩ h hok => a_ref10_Cell m a n (of_decide_eq_true h) (ok_mach (okSL_head hok)) (ok_int (okSL_head (okSL_tail hok))) (ok_int (okSL_head (okSL_tail (okSL_tail hok))))
end

/-! ref05_There -/

def S_ref05_There : Spec := sig [.i .i64, .i .u32, .i .i64] [.b] (fun (size, a, n, _) => K.inR size a n) (pre := fun (size, a, n, _) => decide (0 ≤ n ∧ n ≤ 1099511627776 ∧ 0 ≤ size))
noncomputable def E_ref05_There : Env := EB.adds []

theorem ok_ref05_There : EnvOk E_ref05_There := okEB.adds (l := _) trivial

theorem t_ref05_There (size : Int) (a : Int) (n : Int) : evF E_ref05_There 60 103 (encArgs [.i .i64, .i .u32, .i .i64] (size, a, n, ())) = 
  bif (decide ((IntKind.wrap IntKind.i64 a) ≤ (IntKind.wrap IntKind.i64 (size - n)))) then
    (Tree.leaf (SV.b true))
  else
    (Tree.leaf (SV.b false)) := by kernel_rfl
section
attribute [local irreducible] evF evFL
theorem a_ref05_There (size : Int) (a : Int) (n : Int) (hpre : 0 ≤ n ∧ n ≤ 1099511627776 ∧ 0 ≤ size) (ok_size : okI .i64 size) (ok_a : okI .u32 a) (ok_n : okI .i64 n) : (evF E_ref05_There 60 103 (encArgs [.i .i64, .i .u32, .i .i64] (size, a, n, ()))).ends fun out_ => decO [.b] out_ = some (K.inR size a n) := by
  rw [t_ref05_There, Tree.ends_holds]
  obtain ⟨a0, a1⟩ := okI_u32 ok_a
  obtain ⟨s0, s1⟩ := okI_i64 ok_size
  have e1 : IntKind.i64.wrap a = a := wrapI64 (by omega) (by omega)
  have e2 : IntKind.i64.wrap (size - n) = size - n := wrapI64 (by omega) (by omega)
  simp only [Tree.holds_loop, Tree.holds_fork, Tree.holds_next, if_true, Tree.holds_cond, Tree.holds_letv, Tree.holds_leaf, Tree.holds_fail, decO, decA, decTup, decMach, decCore, decTrap, decInstr, decPart, decGuest, decConf, decEvent, decVcpu, decStep, bytesS, boolS, eventsS, intsS, guestsS, vcpusS, rowS, castL, Option.bind_some, Option.map_some, Option.some.injEq, Nat.beq_refl, beq_self_eq_true, Bool.and_self, cond_true, cond_false, eq_self, beq_iff_eq, beq_eq_false_iff_ne, bne_iff_ne, bne_eq_false_iff_eq, ne_eq, decide_eq_true_eq, decide_eq_false_iff_not, ble_true, ble_false, inRange_iff, inRange_false, K.inR, e1, e2]
  repeat' (first | refine drop_ok ?_ | intro _ | with_reducible apply And.intro)
  all_goals (simp; omega)
  
theorem c_ref05_There : SpecOk EB 103 S_ref05_There := spec_sig ok_ref05_There (n := 60) fun ⟨size, a, n, ⟨⟩⟩ h hok => a_ref05_There size a n (of_decide_eq_true h) (ok_int (okSL_head hok)) (ok_int (okSL_head (okSL_tail hok))) (ok_int (okSL_head (okSL_tail (okSL_tail hok))))
end

/-! ref05_Load -/

def S_ref05_Load : Spec := sig [.rd .u8, .i .u32, .i .i64] [.i .u32, .b] (fun (m, a, n, _) => if K.inR m.length a n = true then (K.ld m a n, true) else (0, false)) (pre := fun (m, a, n, _) => decide (n = 1 ∨ n = 4))
noncomputable def E_ref05_Load : Env := EB.adds [(103, S_ref05_There)]

theorem ok_ref05_Load : EnvOk E_ref05_Load := okEB.adds (l := _) ⟨c_ref05_There, trivial⟩
theorem t1_c_ref05_Load (m : List Int) (a : Int) : evF E_ref05_Load 60 63 [.rd .u8 m, .v (.int .u32 a), .v (.int .i64 1)] = 
  bif (decide (And ((0 : Int) ≤ (1 : Int)) (And ((1 : Int) ≤ (1099511627776 : Int)) ((0 : Int) ≤ (Int.ofNat (List.length m)))))) then
    (Tree.letv (okO [AT.b]) (K.inR (Int.ofNat (List.length m)) a (1 : Int)) fun x0 =>
    (bif x0 then
      (bif (inRange (IntKind.wrap IntKind.i64 ((IntKind.wrap IntKind.i64 a) + (0 : Int))) (List.length m)) then
        (Tree.leaf (SV.tup [(SV.v (Value.int IntKind.u32 (IntKind.wrap IntKind.u32 ((0 : Int) + (IntKind.wrap IntKind.u32 (List.getD m (Int.toNat (IntKind.wrap IntKind.i64 ((IntKind.wrap IntKind.i64 a) + (0 : Int)))) (0 : Int))))))), (SV.b true)]))
      else
        (Tree.fail))
    else
      (Tree.leaf (SV.tup [(SV.v (Value.int IntKind.u32 (0 : Int))), (SV.b false)]))))
  else
    (Tree.fail) := by kernel_rfl
theorem t4_c_ref05_Load (m : List Int) (a : Int) : evF E_ref05_Load 60 63 [.rd .u8 m, .v (.int .u32 a), .v (.int .i64 4)] = 
  bif (decide (And ((0 : Int) ≤ (4 : Int)) (And ((4 : Int) ≤ (1099511627776 : Int)) ((0 : Int) ≤ (Int.ofNat (List.length m)))))) then
    (Tree.letv (okO [AT.b]) (K.inR (Int.ofNat (List.length m)) a (4 : Int)) fun x0 =>
    (bif x0 then
      (bif (inRange (IntKind.wrap IntKind.i64 ((IntKind.wrap IntKind.i64 a) + (3 : Int))) (List.length m)) then
        (bif (inRange (IntKind.wrap IntKind.i64 ((IntKind.wrap IntKind.i64 a) + (2 : Int))) (List.length m)) then
          (bif (inRange (IntKind.wrap IntKind.i64 ((IntKind.wrap IntKind.i64 a) + (1 : Int))) (List.length m)) then
            (bif (inRange (IntKind.wrap IntKind.i64 ((IntKind.wrap IntKind.i64 a) + (0 : Int))) (List.length m)) then
              (Tree.leaf (SV.tup [(SV.v (Value.int IntKind.u32 (IntKind.wrap IntKind.u32 ((IntKind.wrap IntKind.u32 ((IntKind.wrap IntKind.u32 ((IntKind.wrap IntKind.u32 ((IntKind.wrap IntKind.u32 ((IntKind.wrap IntKind.u32 ((IntKind.wrap IntKind.u32 ((0 : Int) + (IntKind.wrap IntKind.u32 (List.getD m (Int.toNat (IntKind.wrap IntKind.i64 ((IntKind.wrap IntKind.i64 a) + (3 : Int)))) (0 : Int))))) * (256 : Int))) + (IntKind.wrap IntKind.u32 (List.getD m (Int.toNat (IntKind.wrap IntKind.i64 ((IntKind.wrap IntKind.i64 a) + (2 : Int)))) (0 : Int))))) * (256 : Int))) + (IntKind.wrap IntKind.u32 (List.getD m (Int.toNat (IntKind.wrap IntKind.i64 ((IntKind.wrap IntKind.i64 a) + (1 : Int)))) (0 : Int))))) * (256 : Int))) + (IntKind.wrap IntKind.u32 (List.getD m (Int.toNat (IntKind.wrap IntKind.i64 ((IntKind.wrap IntKind.i64 a) + (0 : Int)))) (0 : Int))))))), (SV.b true)]))
            else
              (Tree.fail))
          else
            (Tree.fail))
        else
          (Tree.fail))
      else
        (Tree.fail))
    else
      (Tree.leaf (SV.tup [(SV.v (Value.int IntKind.u32 (0 : Int))), (SV.b false)]))))
  else
    (Tree.fail) := by kernel_rfl
theorem a1_c_ref05_Load (m : List Int) (a : Int) (ok_m : okBytes m) (ok_a : okI .u32 a) : (evF E_ref05_Load 60 63 [.rd .u8 m, .v (.int .u32 a), .v (.int .i64 1)]).ends fun out_ => decO [.i .u32, .b] out_ = some (if K.inR m.length a 1 = true then (K.ld m a 1, true) else (0, false)) := by
  rw [t1_c_ref05_Load, Tree.ends_holds]
  obtain ⟨a0, a1⟩ := okI_u32 ok_a
  have b0 := byte_at ok_m a.toNat
  have ew : IntKind.i64.wrap a = a := wrapI64 (by omega) (by omega)
  have i0 : IntKind.i64.wrap (a + 0) = a := by rw [wrapI64 (by omega) (by omega)]; omega
  have v0 : (0 * 256 % 4294967296 + m.getD a.toNat 0 % 4294967296) % 4294967296 = m.getD a.toNat 0 := by omega
  have v1 : (0 + m.getD a.toNat 0 % 4294967296) % 4294967296 = m.getD a.toNat 0 := by omega
  simp only [Tree.holds_loop, Tree.holds_fork, Tree.holds_next, if_true, Tree.holds_cond, Tree.holds_letv, Tree.holds_leaf, Tree.holds_fail, decO, decA, decTup, decMach, decCore, decTrap, decInstr, decPart, decGuest, decConf, decEvent, decVcpu, decStep, bytesS, boolS, eventsS, intsS, guestsS, vcpusS, rowS, castL, Option.bind_some, Option.map_some, Option.some.injEq, Nat.beq_refl, beq_self_eq_true, Bool.and_self, cond_true, cond_false, eq_self, beq_iff_eq, beq_eq_false_iff_ne, bne_iff_ne, bne_eq_false_iff_eq, ne_eq, decide_eq_true_eq, decide_eq_false_iff_not, ble_true, ble_false, inRange_iff, inRange_false, Int.ofNat_eq_natCast, ew, i0, wrap32, v0, v1]
  repeat' (first | refine drop_ok ?_ | intro _ | with_reducible apply And.intro)
  all_goals first | (rw [if_pos (by assumption)]; first | rfl | (congr 2; done) | (simp [K.ld]; omega)) | (rw [if_neg (by simp_all)]) | omega | (simp_all [K.inR]; omega)
theorem a4_c_ref05_Load (m : List Int) (a : Int) (ok_m : okBytes m) (ok_a : okI .u32 a) : (evF E_ref05_Load 60 63 [.rd .u8 m, .v (.int .u32 a), .v (.int .i64 4)]).ends fun out_ => decO [.i .u32, .b] out_ = some (if K.inR m.length a 4 = true then (K.ld m a 4, true) else (0, false)) := by
  rw [t4_c_ref05_Load, Tree.ends_holds]
  obtain ⟨a0, a1⟩ := okI_u32 ok_a
  have ew : IntKind.i64.wrap a = a := wrapI64 (by omega) (by omega)
  have i0 : IntKind.i64.wrap (a + 0) = a := by rw [wrapI64 (by omega) (by omega)]; omega
  have i1 : IntKind.i64.wrap (a + 1) = a + 1 := wrapI64 (by omega) (by omega)
  have i2 : IntKind.i64.wrap (a + 2) = a + 2 := wrapI64 (by omega) (by omega)
  have i3 : IntKind.i64.wrap (a + 3) = a + 3 := wrapI64 (by omega) (by omega)
  have n1 : (a + 1).toNat = a.toNat + 1 := by omega
  have n2 : (a + 2).toNat = a.toNat + 2 := by omega
  have n3 : (a + 3).toNat = a.toNat + 3 := by omega
  obtain ⟨p0, q0⟩ := byte_at ok_m a.toNat
  obtain ⟨p1, q1⟩ := byte_at ok_m (a.toNat + 1)
  obtain ⟨p2, q2⟩ := byte_at ok_m (a.toNat + 2)
  obtain ⟨p3, q3⟩ := byte_at ok_m (a.toNat + 3)
  have fin : ∀ x : Int, x = m.getD a.toNat 0 + 256 * m.getD (a.toNat + 1) 0 + 65536 * m.getD (a.toNat + 2) 0 + 16777216 * m.getD (a.toNat + 3) 0 → (x, true) = (K.ld m a 4, true) := fun x h => by rw [h]; rfl
  simp only [Tree.holds_loop, Tree.holds_fork, Tree.holds_next, if_true, Tree.holds_cond, Tree.holds_letv, Tree.holds_leaf, Tree.holds_fail, decO, decA, decTup, decMach, decCore, decTrap, decInstr, decPart, decGuest, decConf, decEvent, decVcpu, decStep, bytesS, boolS, eventsS, intsS, guestsS, vcpusS, rowS, castL, Option.bind_some, Option.map_some, Option.some.injEq, Nat.beq_refl, beq_self_eq_true, Bool.and_self, cond_true, cond_false, eq_self, beq_iff_eq, beq_eq_false_iff_ne, bne_iff_ne, bne_eq_false_iff_eq, ne_eq, decide_eq_true_eq, decide_eq_false_iff_not, ble_true, ble_false, inRange_iff, inRange_false, Int.ofNat_eq_natCast, ew, i0, i1, i2, i3, n1, n2, n3, wrap32]
  repeat' (first | refine drop_ok ?_ | intro _ | with_reducible apply And.intro)
  all_goals first | (rw [if_pos (by assumption)]; apply fin; omega) | (rw [if_neg (by simp_all)]) | omega | (simp_all [K.inR]; omega)
theorem c_ref05_Load : SpecOk EB 63 S_ref05_Load := spec_sig ok_ref05_Load (n := 60) fun ⟨m, a, n, ⟨⟩⟩ h hok => by
  have h := of_decide_eq_true h
  have o1 := ok_bytes (okSL_head hok)
  have o2 := ok_int (okSL_head (okSL_tail hok))
  rcases h with h | h
  · have h : n = 1 := h
    subst h; exact a1_c_ref05_Load m a o1 o2
  · have h : n = 4 := h
    subst h; exact a4_c_ref05_Load m a o1 o2


/-! ref10_Load -/

def S_ref10_Load : Spec := sig [.mach, .i .u32, .i .i64] [.i .u32, .trap] (fun (m, a, n, _) => K.load m a n) (pre := fun (m, a, n, _) => decide (n = 1 ∨ n = 4))
noncomputable def E_ref10_Load : Env := EB.adds [(62, S_ref10_Cell), (63, S_ref05_Load)]

theorem ok_ref10_Load : EnvOk E_ref10_Load := okEB.adds (l := _) ⟨c_ref10_Cell, c_ref05_Load, trivial⟩

theorem t_ref10_Load (m : PMach) (a : Int) (n : Int) : evF E_ref10_Load 60 29 (encArgs [.mach, .i .u32, .i .i64] (m, a, n, ())) = 
  bif (decide (Or (n = (1 : Int)) (n = (4 : Int)))) then
    (Tree.letv (okO [(AT.i IntKind.u32), AT.trap]) (K.cell m a n) fun x0 =>
    (bif (bne x0.snd.cause (0 : Int)) then
      (Tree.leaf (SV.tup [(SV.v (Value.int IntKind.u32 (0 : Int))), (SV.agg [(SV.v (Value.int IntKind.i64 x0.snd.cause)), (SV.v (Value.int IntKind.u32 x0.snd.tval))])]))
    else
      (bif (decide (Or (n = (1 : Int)) (n = (4 : Int)))) then
        (Tree.letv (okO [(AT.i IntKind.u32), AT.b]) (if ((K.inR (Int.ofNat (List.length m.mem)) x0.fst n) = true) then ((K.ld m.mem x0.fst n), true) else ((0 : Int), false)) fun x1 =>
        (bif x1.snd then
          (Tree.leaf (SV.tup [(SV.v (Value.int IntKind.u32 x1.fst)), (SV.agg [(SV.v (Value.int IntKind.i64 x0.snd.cause)), (SV.v (Value.int IntKind.u32 x0.snd.tval))])]))
        else
          (Tree.leaf (SV.tup [(SV.v (Value.int IntKind.u32 x1.fst)), (SV.agg [(SV.v (Value.int IntKind.i64 x0.snd.cause)), (SV.v (Value.int IntKind.u32 x0.snd.tval))])]))))
      else
        (Tree.fail))))
  else
    (Tree.fail) := by kernel_rfl
section
attribute [local irreducible] evF evFL
theorem a_ref10_Load (m : PMach) (a : Int) (n : Int) (hpre : n = 1 ∨ n = 4) (ok_m : okMach m) (ok_a : okI .u32 a) (ok_n : okI .i64 n) : (evF E_ref10_Load 60 29 (encArgs [.mach, .i .u32, .i .i64] (m, a, n, ()))).ends fun out_ => decO [.i .u32, .trap] out_ = some (K.load m a n) := by
  rw [t_ref10_Load, Tree.ends_holds]
  obtain ⟨a0, a1⟩ := okI_u32 ok_a
  have hr := fun h => cell_range ok_m.core (a := a) (n := n) a0 (by omega) h
  simp only [Tree.holds_loop, Tree.holds_fork, Tree.holds_next, if_true, Tree.holds_cond, Tree.holds_letv, Tree.holds_leaf, Tree.holds_fail, decO, decA, decTup, decMach, decCore, decTrap, decInstr, decPart, decGuest, decConf, decEvent, decVcpu, decStep, bytesS, boolS, eventsS, intsS, guestsS, vcpusS, rowS, castL, Option.bind_some, Option.map_some, Option.some.injEq, Nat.beq_refl, beq_self_eq_true, Bool.and_self, cond_true, cond_false, eq_self, beq_iff_eq, beq_eq_false_iff_ne, bne_iff_ne, bne_eq_false_iff_eq, ne_eq, decide_eq_true_eq, decide_eq_false_iff_not, ble_true, ble_false, inRange_iff, inRange_false, Int.ofNat_eq_natCast, K.load]
  by_cases h : (K.cell m a n).2.cause = 0
  · have ht := cell_zero h
    have hi : K.inR m.mem.length (K.cell m a n).1 n = true := by have := hr h; simp only [K.inR, decide_eq_true_eq]; omega
    simp only [h, ht, hi, if_true]
    simp [hpre]
  · simp [h, hpre]
  
theorem c_ref10_Load : SpecOk EB 29 S_ref10_Load := spec_sig ok_ref10_Load (n := 60) fun ⟨m, a, n, ⟨⟩⟩ h hok => a_ref10_Load m a n (of_decide_eq_true h) (ok_mach (okSL_head hok)) (ok_int (okSL_head (okSL_tail hok))) (ok_int (okSL_head (okSL_tail (okSL_tail hok))))
end

/-! ref02_Form -/

def S_ref02_Form : Spec := sig [.i .i64] [.i .i64] (fun (op, _) => K.form op)
noncomputable def E_ref02_Form : Env := EB.adds []

theorem ok_ref02_Form : EnvOk E_ref02_Form := okEB.adds (l := _) trivial

theorem t_ref02_Form (op : Int) : evF E_ref02_Form 60 64 (encArgs [.i .i64] (op, ())) = 
  bif (BEq.beq op (1 : Int)) then
    (Tree.leaf (SV.v (Value.int IntKind.i64 (1 : Int))))
  else
    (bif (BEq.beq op (2 : Int)) then
      (Tree.leaf (SV.v (Value.int IntKind.i64 (1 : Int))))
    else
      (bif (BEq.beq op (3 : Int)) then
        (Tree.leaf (SV.v (Value.int IntKind.i64 (1 : Int))))
      else
        (bif (BEq.beq op (4 : Int)) then
          (Tree.leaf (SV.v (Value.int IntKind.i64 (1 : Int))))
        else
          (bif (BEq.beq op (5 : Int)) then
            (Tree.leaf (SV.v (Value.int IntKind.i64 (1 : Int))))
          else
            (bif (BEq.beq op (6 : Int)) then
              (Tree.leaf (SV.v (Value.int IntKind.i64 (1 : Int))))
            else
              (bif (BEq.beq op (7 : Int)) then
                (Tree.leaf (SV.v (Value.int IntKind.i64 (1 : Int))))
              else
                (bif (BEq.beq op (8 : Int)) then
                  (Tree.leaf (SV.v (Value.int IntKind.i64 (1 : Int))))
                else
                  (bif (BEq.beq op (9 : Int)) then
                    (Tree.leaf (SV.v (Value.int IntKind.i64 (2 : Int))))
                  else
                    (bif (BEq.beq op (11 : Int)) then
                      (Tree.leaf (SV.v (Value.int IntKind.i64 (2 : Int))))
                    else
                      (bif (BEq.beq op (12 : Int)) then
                        (Tree.leaf (SV.v (Value.int IntKind.i64 (2 : Int))))
                      else
                        (bif (BEq.beq op (13 : Int)) then
                          (Tree.leaf (SV.v (Value.int IntKind.i64 (2 : Int))))
                        else
                          (bif (BEq.beq op (14 : Int)) then
                            (Tree.leaf (SV.v (Value.int IntKind.i64 (2 : Int))))
                          else
                            (bif (BEq.beq op (15 : Int)) then
                              (Tree.leaf (SV.v (Value.int IntKind.i64 (2 : Int))))
                            else
                              (bif (BEq.beq op (16 : Int)) then
                                (Tree.leaf (SV.v (Value.int IntKind.i64 (2 : Int))))
                              else
                                (bif (BEq.beq op (17 : Int)) then
                                  (Tree.leaf (SV.v (Value.int IntKind.i64 (2 : Int))))
                                else
                                  (bif (BEq.beq op (19 : Int)) then
                                    (Tree.leaf (SV.v (Value.int IntKind.i64 (2 : Int))))
                                  else
                                    (bif (BEq.beq op (10 : Int)) then
                                      (Tree.leaf (SV.v (Value.int IntKind.i64 (3 : Int))))
                                    else
                                      (bif (BEq.beq op (18 : Int)) then
                                        (Tree.leaf (SV.v (Value.int IntKind.i64 (3 : Int))))
                                      else
                                        (bif (BEq.beq op (20 : Int)) then
                                          (Tree.leaf (SV.v (Value.int IntKind.i64 (4 : Int))))
                                        else
                                          (bif (BEq.beq op (23 : Int)) then
                                            (Tree.leaf (SV.v (Value.int IntKind.i64 (4 : Int))))
                                          else
                                            (bif (BEq.beq op (24 : Int)) then
                                              (Tree.leaf (SV.v (Value.int IntKind.i64 (4 : Int))))
                                            else
                                              (bif (BEq.beq op (21 : Int)) then
                                                (Tree.leaf (SV.v (Value.int IntKind.i64 (5 : Int))))
                                              else
                                                (bif (BEq.beq op (22 : Int)) then
                                                  (Tree.leaf (SV.v (Value.int IntKind.i64 (6 : Int))))
                                                else
                                                  (bif (BEq.beq op (25 : Int)) then
                                                    (Tree.leaf (SV.v (Value.int IntKind.i64 (7 : Int))))
                                                  else
                                                    (Tree.leaf (SV.v (Value.int IntKind.i64 (0 : Int)))))))))))))))))))))))))))) := by kernel_rfl
section
attribute [local irreducible] evF evFL
theorem a_ref02_Form (op : Int) (ok_op : okI .i64 op) : (evF E_ref02_Form 60 64 (encArgs [.i .i64] (op, ()))).ends fun out_ => decO [.i .i64] out_ = some (K.form op) := by
  rw [t_ref02_Form, Tree.ends_holds]
  simp only [Tree.holds_loop, Tree.holds_fork, Tree.holds_next, if_true, Tree.holds_cond, Tree.holds_letv, Tree.holds_leaf, Tree.holds_fail, decO, decA, decTup, decMach, decCore, decTrap, decInstr, decPart, decGuest, decConf, decEvent, decVcpu, decStep, bytesS, boolS, eventsS, intsS, guestsS, vcpusS, rowS, castL, Option.bind_some, Option.map_some, Option.some.injEq, Nat.beq_refl, beq_self_eq_true, Bool.and_self, cond_true, cond_false, eq_self, beq_iff_eq, beq_eq_false_iff_ne, bne_iff_ne, bne_eq_false_iff_eq, ne_eq, decide_eq_true_eq, decide_eq_false_iff_not, ble_true, ble_false, inRange_iff, inRange_false]
  repeat' (first | refine drop_ok ?_ | intro _ | with_reducible apply And.intro)
  all_goals first | (subst_vars; rfl) | (unfold K.form; (repeat' split) <;> first | rfl | omega)
  
theorem c_ref02_Form : SpecOk EB 64 S_ref02_Form := spec_sig ok_ref02_Form (n := 60) fun ⟨op, ⟨⟩⟩ h hok => a_ref02_Form op (ok_int (okSL_head hok))
end

/-! ref01_Pow -/
@[reducible] def L_ref01_Pow (n : Int) : LoopSpec where
  σ := Nat
  slots := [0, 3, 4]
  keys := []
  vals := fun j => [.v (.int .i64 n), .v (.int .u64 ((2 ^ j : Nat) : Int)), .v (.int .i64 (j : Int))]
  blks := fun _ => []
  inv := fun j => j ≤ n.toNat
  mu := fun j => n.toNat - j
def S_ref01_Pow : Spec := sig [.i .i64] [.i .u64] (fun (n, _) => K.pow n) (pre := fun (n, _) => decide (n ≤ 63))
noncomputable def E_ref01_Pow : Env := EB.adds []

theorem ok_ref01_Pow : EnvOk E_ref01_Pow := okEB.adds (l := _) trivial

theorem t_ref01_Pow (n : Int) : evFL E_ref01_Pow (fun _ => some (L_ref01_Pow n)) 60 70 (encArgs [.i .i64] (n, ())) = 
  Tree.loop 0 (L_ref01_Pow n) [(SV.v (Value.int IntKind.i64 n)), (SV.v (Value.int IntKind.u64 (1 : Int))), (SV.v (Value.int IntKind.i64 (0 : Int)))] [] fun (x0 : Nat) =>
  (bif (decide ((Int.ofNat x0) < n)) then
    ((Tree.next 0 [(SV.v (Value.int IntKind.i64 n)), (SV.v (Value.int IntKind.u64 (IntKind.wrap IntKind.u64 ((Int.ofNat (2 ^ x0)) * (2 : Int))))), (SV.v (Value.int IntKind.i64 (IntKind.wrap IntKind.i64 ((Int.ofNat x0) + (1 : Int)))))] []))
  else
    (Tree.leaf (SV.v (Value.int IntKind.u64 (Int.ofNat (2 ^ x0)))))) := by kernel_rfl
section
attribute [local irreducible] evF evFL
theorem a_ref01_Pow (n : Int) (hpre : n ≤ 63) (ok_n : okI .i64 n) : (evFL E_ref01_Pow (fun _ => some (L_ref01_Pow n)) 60 70 (encArgs [.i .i64] (n, ()))).ends fun out_ => decO [.i .u64] out_ = some (K.pow n) := by
  rw [t_ref01_Pow, Tree.ends_holds]
  simp only [Tree.holds_loop]
  refine ⟨⟨(0 : Nat), rfl, rfl, Nat.zero_le _, trivial⟩, fun (j : Nat) (hj : j ≤ n.toNat) => ?_⟩
  simp only [Tree.holds_loop, Tree.holds_fork, Tree.holds_next, if_true, Tree.holds_cond, Tree.holds_letv, Tree.holds_leaf, Tree.holds_fail]
  have h63 := pow63 (j := j) (by omega)
  refine ⟨fun h => ⟨j + 1, ?_, rfl, ?_, ?_⟩, fun h => ?_⟩
  · have h : (j : Int) < n := by simpa using h
    have h2 := pow63 (j := j + 1) (by omega)
    have e1 : IntKind.u64.wrap (((2 ^ j : Nat) : Int) * 2) = ((2 ^ (j + 1) : Nat) : Int) := by rw [wrap64, Nat.pow_succ] at *; omega
    have e2 : IntKind.i64.wrap ((j : Int) + 1) = ((j + 1 : Nat) : Int) := by rw [wrapI64 (by omega) (by omega)]; rfl
    show _ = [SV.v (.int .i64 n), .v (.int .u64 ((2 ^ (j + 1) : Nat) : Int)), .v (.int .i64 ((j + 1 : Nat) : Int))]
    rw [← e1, ← e2]; rfl
  · have h : (j : Int) < n := by simpa using h
    show j + 1 ≤ n.toNat; omega
  · have h : (j : Int) < n := by simpa using h
    show n.toNat - (j + 1) < n.toNat - j; omega
  · have h : n ≤ (j : Int) := by simpa using h
    have : j = n.toNat := by omega
    subst this; rfl
  
theorem c_ref01_Pow : SpecOk EB 70 S_ref01_Pow := spec_sigL ok_ref01_Pow (n := 60) (fun (n, _) => fun _ => some (L_ref01_Pow n)) fun ⟨n, ⟨⟩⟩ h hok => a_ref01_Pow n (of_decide_eq_true h) (ok_int (okSL_head hok))
end

/-! ref01_Field -/

def S_ref01_Field : Spec := sig [.i .u32, .i .i64, .i .i64] [.i .u32] (fun (w, at_, n, _) => K.field w at_ n) (pre := fun (w, at_, n, _) => decide (at_ ≤ 63 ∧ n ≤ 63))
noncomputable def E_ref01_Field : Env := EB.adds [(70, S_ref01_Pow)]

theorem ok_ref01_Field : EnvOk E_ref01_Field := okEB.adds (l := _) ⟨c_ref01_Pow, trivial⟩

theorem t_ref01_Field (w : Int) (at_ : Int) (n : Int) : evF E_ref01_Field 60 41 (encArgs [.i .u32, .i .i64, .i .i64] (w, at_, n, ())) = 
  bif (decide (at_ ≤ (63 : Int))) then
    (Tree.letv (okO [(AT.i IntKind.u64)]) (K.pow at_) fun x0 =>
    (bif (bne x0 (0 : Int)) then
      (bif (decide (n ≤ (63 : Int))) then
        (Tree.letv (okO [(AT.i IntKind.u64)]) (K.pow n) fun x1 =>
        (bif (bne x1 (0 : Int)) then
          (Tree.leaf (SV.v (Value.int IntKind.u32 (IntKind.wrap IntKind.u32 (Int.tmod (IntKind.wrap IntKind.u64 (Int.tdiv (IntKind.wrap IntKind.u64 w) x0)) x1)))))
        else
          (Tree.fail)))
      else
        (Tree.fail))
    else
      (Tree.fail)))
  else
    (Tree.fail) := by kernel_rfl
section
attribute [local irreducible] evF evFL
theorem a_ref01_Field (w : Int) (at_ : Int) (n : Int) (hpre : at_ ≤ 63 ∧ n ≤ 63) (ok_w : okI .u32 w) (ok_at_ : okI .i64 at_) (ok_n : okI .i64 n) : (evF E_ref01_Field 60 41 (encArgs [.i .u32, .i .i64, .i .i64] (w, at_, n, ()))).ends fun out_ => decO [.i .u32] out_ = some (K.field w at_ n) := by
  rw [t_ref01_Field, Tree.ends_holds]
  obtain ⟨w0, w1⟩ := okI_u32 ok_w
  have p1 := K.pow_pos at_
  have p2 := K.pow_pos n
  have p3 := K.pow_le hpre.1
  have p4 := K.pow_le hpre.2
  have q1 : w / K.pow at_ ≤ w := Int.ediv_le_self _ w0
  have q0 : 0 ≤ w / K.pow at_ := Int.ediv_nonneg w0 (by omega)
  have q2 := Int.emod_nonneg (w / K.pow at_) (show K.pow n ≠ 0 by omega)
  have q3 : w / K.pow at_ % K.pow n ≤ w / K.pow at_ := emod_le q0 p2
  have e1 : IntKind.u64.wrap w = w := by rw [wrap64]; omega
  have e2 : Int.tdiv w (K.pow at_) = w / K.pow at_ := Int.tdiv_eq_ediv_of_nonneg w0
  have e3 : IntKind.u64.wrap (w / K.pow at_) = w / K.pow at_ := by rw [wrap64]; omega
  have e4 : Int.tmod (w / K.pow at_) (K.pow n) = w / K.pow at_ % K.pow n := Int.tmod_eq_emod_of_nonneg q0
  have e5 : IntKind.u32.wrap (w / K.pow at_ % K.pow n) = w / K.pow at_ % K.pow n := by rw [wrap32]; omega
  simp only [Tree.holds_loop, Tree.holds_fork, Tree.holds_next, if_true, Tree.holds_cond, Tree.holds_letv, Tree.holds_leaf, Tree.holds_fail, decO, decA, decTup, decMach, decCore, decTrap, decInstr, decPart, decGuest, decConf, decEvent, decVcpu, decStep, bytesS, boolS, eventsS, intsS, guestsS, vcpusS, rowS, castL, Option.bind_some, Option.map_some, Option.some.injEq, Nat.beq_refl, beq_self_eq_true, Bool.and_self, cond_true, cond_false, eq_self, K.field, decide_eq_true hpre.1, decide_eq_true hpre.2, e1, e2, e3, e4, e5]
  have n1 : (K.pow at_ != 0) = true := bne_iff_ne.2 (by omega)
  have n2 : (K.pow n != 0) = true := bne_iff_ne.2 (by omega)
  simp [n1, n2]
  
theorem c_ref01_Field : SpecOk EB 41 S_ref01_Field := spec_sig ok_ref01_Field (n := 60) fun ⟨w, at_, n, ⟨⟩⟩ h hok => a_ref01_Field w at_ n (of_decide_eq_true h) (ok_int (okSL_head hok)) (ok_int (okSL_head (okSL_tail hok))) (ok_int (okSL_head (okSL_tail (okSL_tail hok))))
end

/-! ref01_Sign -/

def S_ref01_Sign : Spec := sig [.i .u32, .i .i64] [.i .i32] (fun (v, n, _) => K.sext v) (pre := fun (v, n, _) => decide (n = 18))
noncomputable def E_ref01_Sign : Env := EB.adds [(41, S_ref01_Field), (70, S_ref01_Pow)]

theorem ok_ref01_Sign : EnvOk E_ref01_Sign := okEB.adds (l := _) ⟨c_ref01_Field, c_ref01_Pow, trivial⟩

theorem t_ref01_Sign (v : Int) (n : Int) : evF E_ref01_Sign 60 65 (encArgs [.i .u32, .i .i64] (v, n, ())) = 
  bif (decide (And ((0 : Int) ≤ (63 : Int)) (n ≤ (63 : Int)))) then
    (Tree.letv (okO [(AT.i IntKind.u32)]) (K.field v (0 : Int) n) fun x0 =>
    (bif (decide ((IntKind.wrap IntKind.i64 (n - (1 : Int))) ≤ (63 : Int))) then
      (Tree.letv (okO [(AT.i IntKind.u64)]) (K.pow (IntKind.wrap IntKind.i64 (n - (1 : Int)))) fun x1 =>
      (bif (decide ((IntKind.wrap IntKind.i64 x0) ≥ (IntKind.wrap IntKind.i64 x1))) then
        (bif (decide (n ≤ (63 : Int))) then
          (Tree.letv (okO [(AT.i IntKind.u64)]) (K.pow n) fun x2 =>
          (Tree.leaf (SV.v (Value.int IntKind.i32 (IntKind.wrap IntKind.i32 (IntKind.wrap IntKind.i64 ((IntKind.wrap IntKind.i64 x0) - (IntKind.wrap IntKind.i64 x2))))))))
        else
          (Tree.fail))
      else
        (Tree.leaf (SV.v (Value.int IntKind.i32 (IntKind.wrap IntKind.i32 (IntKind.wrap IntKind.i64 x0)))))))
    else
      (Tree.fail)))
  else
    (Tree.fail) := by kernel_rfl
section
attribute [local irreducible] evF evFL
theorem a_ref01_Sign (v : Int) (n : Int) (hpre : n = 18) (ok_v : okI .u32 v) (ok_n : okI .i64 n) : (evF E_ref01_Sign 60 65 (encArgs [.i .u32, .i .i64] (v, n, ()))).ends fun out_ => decO [.i .i32] out_ = some (K.sext v) := by
  rw [t_ref01_Sign, Tree.ends_holds]
  obtain ⟨v0, v1⟩ := okI_u32 ok_v
  subst hpre
  have e1 : K.field v 0 18 = v % 262144 := by simp [K.field, K.pow]
  have e2 : IntKind.i64.wrap (v % 262144) = v % 262144 := wrapI64 (by omega) (by omega)
  have e3 : IntKind.i64.wrap (K.pow (IntKind.i64.wrap (18 - 1))) = 131072 := by decide
  have e4 : IntKind.i64.wrap (K.pow 18) = 262144 := by decide
  have e5 : decide (IntKind.i64.wrap (18 - 1) ≤ 63) = true := by decide
  have e6 : IntKind.i64.wrap (v % 262144 - 262144) = v % 262144 - 262144 := wrapI64 (by omega) (by omega)
  have e7 : IntKind.i32.wrap (v % 262144) = v % 262144 := wrapI32 (by omega) (by omega)
  have e8 : IntKind.i32.wrap (v % 262144 - 262144) = v % 262144 - 262144 := wrapI32 (by omega) (by omega)
  simp only [Tree.holds_loop, Tree.holds_fork, Tree.holds_next, if_true, Tree.holds_cond, Tree.holds_letv, Tree.holds_leaf, Tree.holds_fail, decO, decA, decTup, decMach, decCore, decTrap, decInstr, decPart, decGuest, decConf, decEvent, decVcpu, decStep, bytesS, boolS, eventsS, intsS, guestsS, vcpusS, rowS, castL, Option.bind_some, Option.map_some, Option.some.injEq, Nat.beq_refl, beq_self_eq_true, Bool.and_self, cond_true, cond_false, eq_self, beq_iff_eq, beq_eq_false_iff_ne, bne_iff_ne, bne_eq_false_iff_eq, ne_eq, decide_eq_true_eq, decide_eq_false_iff_not, ble_true, ble_false, inRange_iff, inRange_false, e1, e2, e3, e4, e5, e6, e7, e8, K.sext]
  repeat' (first | refine drop_ok ?_ | intro _ | with_reducible apply And.intro)
  all_goals first | omega | (simp_all; done) | (simp_all; omega)
  
theorem c_ref01_Sign : SpecOk EB 65 S_ref01_Sign := spec_sig ok_ref01_Sign (n := 60) fun ⟨v, n, ⟨⟩⟩ h hok => a_ref01_Sign v n (of_decide_eq_true h) (ok_int (okSL_head hok)) (ok_int (okSL_head (okSL_tail hok)))
end

/-! ref02_May -/

def S_ref02_May : Spec := sig [.instr] [.b] (fun (i, _) => K.may i)
noncomputable def E_ref02_May : Env := EB.adds []

theorem ok_ref02_May : EnvOk E_ref02_May := okEB.adds (l := _) trivial

theorem t_c_ref02_May_0 (rd ra rb imm : Int) : evF E_ref02_May 60 104 [.agg (instrC ⟨0, rd, ra, rb, imm⟩)] = 
  Tree.leaf (SV.b false) := by kernel_rfl
theorem t_c_ref02_May_1 (rd ra rb imm : Int) : evF E_ref02_May 60 104 [.agg (instrC ⟨1, rd, ra, rb, imm⟩)] = 
  bif (decide (rd ≥ (0 : Int))) then
    (bif (decide (rd ≤ (15 : Int))) then
      (bif (decide (ra ≥ (0 : Int))) then
        (bif (decide (ra ≤ (15 : Int))) then
          (bif (decide (rb ≥ (0 : Int))) then
            (bif (decide (rb ≤ (15 : Int))) then
              (bif (BEq.beq imm (0 : Int)) then
                (Tree.leaf (SV.b true))
              else
                (Tree.leaf (SV.b false)))
            else
              (Tree.leaf (SV.b false)))
          else
            (Tree.leaf (SV.b false)))
        else
          (Tree.leaf (SV.b false)))
      else
        (Tree.leaf (SV.b false)))
    else
      (Tree.leaf (SV.b false)))
  else
    (Tree.leaf (SV.b false)) := by kernel_rfl
theorem t_c_ref02_May_2 (rd ra rb imm : Int) : evF E_ref02_May 60 104 [.agg (instrC ⟨2, rd, ra, rb, imm⟩)] = 
  bif (decide (rd ≥ (0 : Int))) then
    (bif (decide (rd ≤ (15 : Int))) then
      (bif (decide (ra ≥ (0 : Int))) then
        (bif (decide (ra ≤ (15 : Int))) then
          (bif (decide (rb ≥ (0 : Int))) then
            (bif (decide (rb ≤ (15 : Int))) then
              (bif (BEq.beq imm (0 : Int)) then
                (Tree.leaf (SV.b true))
              else
                (Tree.leaf (SV.b false)))
            else
              (Tree.leaf (SV.b false)))
          else
            (Tree.leaf (SV.b false)))
        else
          (Tree.leaf (SV.b false)))
      else
        (Tree.leaf (SV.b false)))
    else
      (Tree.leaf (SV.b false)))
  else
    (Tree.leaf (SV.b false)) := by kernel_rfl
theorem t_c_ref02_May_3 (rd ra rb imm : Int) : evF E_ref02_May 60 104 [.agg (instrC ⟨3, rd, ra, rb, imm⟩)] = 
  bif (decide (rd ≥ (0 : Int))) then
    (bif (decide (rd ≤ (15 : Int))) then
      (bif (decide (ra ≥ (0 : Int))) then
        (bif (decide (ra ≤ (15 : Int))) then
          (bif (decide (rb ≥ (0 : Int))) then
            (bif (decide (rb ≤ (15 : Int))) then
              (bif (BEq.beq imm (0 : Int)) then
                (Tree.leaf (SV.b true))
              else
                (Tree.leaf (SV.b false)))
            else
              (Tree.leaf (SV.b false)))
          else
            (Tree.leaf (SV.b false)))
        else
          (Tree.leaf (SV.b false)))
      else
        (Tree.leaf (SV.b false)))
    else
      (Tree.leaf (SV.b false)))
  else
    (Tree.leaf (SV.b false)) := by kernel_rfl
theorem t_c_ref02_May_4 (rd ra rb imm : Int) : evF E_ref02_May 60 104 [.agg (instrC ⟨4, rd, ra, rb, imm⟩)] = 
  bif (decide (rd ≥ (0 : Int))) then
    (bif (decide (rd ≤ (15 : Int))) then
      (bif (decide (ra ≥ (0 : Int))) then
        (bif (decide (ra ≤ (15 : Int))) then
          (bif (decide (rb ≥ (0 : Int))) then
            (bif (decide (rb ≤ (15 : Int))) then
              (bif (BEq.beq imm (0 : Int)) then
                (Tree.leaf (SV.b true))
              else
                (Tree.leaf (SV.b false)))
            else
              (Tree.leaf (SV.b false)))
          else
            (Tree.leaf (SV.b false)))
        else
          (Tree.leaf (SV.b false)))
      else
        (Tree.leaf (SV.b false)))
    else
      (Tree.leaf (SV.b false)))
  else
    (Tree.leaf (SV.b false)) := by kernel_rfl
theorem t_c_ref02_May_5 (rd ra rb imm : Int) : evF E_ref02_May 60 104 [.agg (instrC ⟨5, rd, ra, rb, imm⟩)] = 
  bif (decide (rd ≥ (0 : Int))) then
    (bif (decide (rd ≤ (15 : Int))) then
      (bif (decide (ra ≥ (0 : Int))) then
        (bif (decide (ra ≤ (15 : Int))) then
          (bif (decide (rb ≥ (0 : Int))) then
            (bif (decide (rb ≤ (15 : Int))) then
              (bif (BEq.beq imm (0 : Int)) then
                (Tree.leaf (SV.b true))
              else
                (Tree.leaf (SV.b false)))
            else
              (Tree.leaf (SV.b false)))
          else
            (Tree.leaf (SV.b false)))
        else
          (Tree.leaf (SV.b false)))
      else
        (Tree.leaf (SV.b false)))
    else
      (Tree.leaf (SV.b false)))
  else
    (Tree.leaf (SV.b false)) := by kernel_rfl
theorem t_c_ref02_May_6 (rd ra rb imm : Int) : evF E_ref02_May 60 104 [.agg (instrC ⟨6, rd, ra, rb, imm⟩)] = 
  bif (decide (rd ≥ (0 : Int))) then
    (bif (decide (rd ≤ (15 : Int))) then
      (bif (decide (ra ≥ (0 : Int))) then
        (bif (decide (ra ≤ (15 : Int))) then
          (bif (decide (rb ≥ (0 : Int))) then
            (bif (decide (rb ≤ (15 : Int))) then
              (bif (BEq.beq imm (0 : Int)) then
                (Tree.leaf (SV.b true))
              else
                (Tree.leaf (SV.b false)))
            else
              (Tree.leaf (SV.b false)))
          else
            (Tree.leaf (SV.b false)))
        else
          (Tree.leaf (SV.b false)))
      else
        (Tree.leaf (SV.b false)))
    else
      (Tree.leaf (SV.b false)))
  else
    (Tree.leaf (SV.b false)) := by kernel_rfl
theorem t_c_ref02_May_7 (rd ra rb imm : Int) : evF E_ref02_May 60 104 [.agg (instrC ⟨7, rd, ra, rb, imm⟩)] = 
  bif (decide (rd ≥ (0 : Int))) then
    (bif (decide (rd ≤ (15 : Int))) then
      (bif (decide (ra ≥ (0 : Int))) then
        (bif (decide (ra ≤ (15 : Int))) then
          (bif (decide (rb ≥ (0 : Int))) then
            (bif (decide (rb ≤ (15 : Int))) then
              (bif (BEq.beq imm (0 : Int)) then
                (Tree.leaf (SV.b true))
              else
                (Tree.leaf (SV.b false)))
            else
              (Tree.leaf (SV.b false)))
          else
            (Tree.leaf (SV.b false)))
        else
          (Tree.leaf (SV.b false)))
      else
        (Tree.leaf (SV.b false)))
    else
      (Tree.leaf (SV.b false)))
  else
    (Tree.leaf (SV.b false)) := by kernel_rfl
theorem t_c_ref02_May_8 (rd ra rb imm : Int) : evF E_ref02_May 60 104 [.agg (instrC ⟨8, rd, ra, rb, imm⟩)] = 
  bif (decide (rd ≥ (0 : Int))) then
    (bif (decide (rd ≤ (15 : Int))) then
      (bif (decide (ra ≥ (0 : Int))) then
        (bif (decide (ra ≤ (15 : Int))) then
          (bif (decide (rb ≥ (0 : Int))) then
            (bif (decide (rb ≤ (15 : Int))) then
              (bif (BEq.beq imm (0 : Int)) then
                (Tree.leaf (SV.b true))
              else
                (Tree.leaf (SV.b false)))
            else
              (Tree.leaf (SV.b false)))
          else
            (Tree.leaf (SV.b false)))
        else
          (Tree.leaf (SV.b false)))
      else
        (Tree.leaf (SV.b false)))
    else
      (Tree.leaf (SV.b false)))
  else
    (Tree.leaf (SV.b false)) := by kernel_rfl
theorem t_c_ref02_May_9 (rd ra rb imm : Int) : evF E_ref02_May 60 104 [.agg (instrC ⟨9, rd, ra, rb, imm⟩)] = 
  bif (decide (rd ≥ (0 : Int))) then
    (bif (decide (rd ≤ (15 : Int))) then
      (bif (decide (ra ≥ (0 : Int))) then
        (bif (decide (ra ≤ (15 : Int))) then
          (bif (BEq.beq rb (0 : Int)) then
            (bif (decide ((IntKind.wrap IntKind.i64 imm) ≥ (-131072 : Int))) then
              (bif (decide ((IntKind.wrap IntKind.i64 imm) < (131072 : Int))) then
                (Tree.leaf (SV.b true))
              else
                (Tree.leaf (SV.b false)))
            else
              (Tree.leaf (SV.b false)))
          else
            (Tree.leaf (SV.b false)))
        else
          (Tree.leaf (SV.b false)))
      else
        (Tree.leaf (SV.b false)))
    else
      (Tree.leaf (SV.b false)))
  else
    (Tree.leaf (SV.b false)) := by kernel_rfl
theorem t_c_ref02_May_10 (rd ra rb imm : Int) : evF E_ref02_May 60 104 [.agg (instrC ⟨10, rd, ra, rb, imm⟩)] = 
  bif (decide (rd ≥ (0 : Int))) then
    (bif (decide (rd ≤ (15 : Int))) then
      (bif (BEq.beq ra (0 : Int)) then
        (bif (BEq.beq rb (0 : Int)) then
          (bif (decide ((IntKind.wrap IntKind.i64 imm) ≥ (-131072 : Int))) then
            (bif (decide ((IntKind.wrap IntKind.i64 imm) < (131072 : Int))) then
              (Tree.leaf (SV.b true))
            else
              (Tree.leaf (SV.b false)))
          else
            (Tree.leaf (SV.b false)))
        else
          (Tree.leaf (SV.b false)))
      else
        (Tree.leaf (SV.b false)))
    else
      (Tree.leaf (SV.b false)))
  else
    (Tree.leaf (SV.b false)) := by kernel_rfl
theorem t_c_ref02_May_11 (rd ra rb imm : Int) : evF E_ref02_May 60 104 [.agg (instrC ⟨11, rd, ra, rb, imm⟩)] = 
  bif (decide (rd ≥ (0 : Int))) then
    (bif (decide (rd ≤ (15 : Int))) then
      (bif (decide (ra ≥ (0 : Int))) then
        (bif (decide (ra ≤ (15 : Int))) then
          (bif (BEq.beq rb (0 : Int)) then
            (bif (decide ((IntKind.wrap IntKind.i64 imm) ≥ (-131072 : Int))) then
              (bif (decide ((IntKind.wrap IntKind.i64 imm) < (131072 : Int))) then
                (Tree.leaf (SV.b true))
              else
                (Tree.leaf (SV.b false)))
            else
              (Tree.leaf (SV.b false)))
          else
            (Tree.leaf (SV.b false)))
        else
          (Tree.leaf (SV.b false)))
      else
        (Tree.leaf (SV.b false)))
    else
      (Tree.leaf (SV.b false)))
  else
    (Tree.leaf (SV.b false)) := by kernel_rfl
theorem t_c_ref02_May_12 (rd ra rb imm : Int) : evF E_ref02_May 60 104 [.agg (instrC ⟨12, rd, ra, rb, imm⟩)] = 
  bif (decide (rd ≥ (0 : Int))) then
    (bif (decide (rd ≤ (15 : Int))) then
      (bif (decide (ra ≥ (0 : Int))) then
        (bif (decide (ra ≤ (15 : Int))) then
          (bif (BEq.beq rb (0 : Int)) then
            (bif (decide ((IntKind.wrap IntKind.i64 imm) ≥ (-131072 : Int))) then
              (bif (decide ((IntKind.wrap IntKind.i64 imm) < (131072 : Int))) then
                (Tree.leaf (SV.b true))
              else
                (Tree.leaf (SV.b false)))
            else
              (Tree.leaf (SV.b false)))
          else
            (Tree.leaf (SV.b false)))
        else
          (Tree.leaf (SV.b false)))
      else
        (Tree.leaf (SV.b false)))
    else
      (Tree.leaf (SV.b false)))
  else
    (Tree.leaf (SV.b false)) := by kernel_rfl
theorem t_c_ref02_May_13 (rd ra rb imm : Int) : evF E_ref02_May 60 104 [.agg (instrC ⟨13, rd, ra, rb, imm⟩)] = 
  bif (decide (rd ≥ (0 : Int))) then
    (bif (decide (rd ≤ (15 : Int))) then
      (bif (decide (ra ≥ (0 : Int))) then
        (bif (decide (ra ≤ (15 : Int))) then
          (bif (BEq.beq rb (0 : Int)) then
            (bif (decide ((IntKind.wrap IntKind.i64 imm) ≥ (-131072 : Int))) then
              (bif (decide ((IntKind.wrap IntKind.i64 imm) < (131072 : Int))) then
                (Tree.leaf (SV.b true))
              else
                (Tree.leaf (SV.b false)))
            else
              (Tree.leaf (SV.b false)))
          else
            (Tree.leaf (SV.b false)))
        else
          (Tree.leaf (SV.b false)))
      else
        (Tree.leaf (SV.b false)))
    else
      (Tree.leaf (SV.b false)))
  else
    (Tree.leaf (SV.b false)) := by kernel_rfl
theorem t_c_ref02_May_14 (rd ra rb imm : Int) : evF E_ref02_May 60 104 [.agg (instrC ⟨14, rd, ra, rb, imm⟩)] = 
  bif (decide (rd ≥ (0 : Int))) then
    (bif (decide (rd ≤ (15 : Int))) then
      (bif (decide (ra ≥ (0 : Int))) then
        (bif (decide (ra ≤ (15 : Int))) then
          (bif (BEq.beq rb (0 : Int)) then
            (bif (decide ((IntKind.wrap IntKind.i64 imm) ≥ (-131072 : Int))) then
              (bif (decide ((IntKind.wrap IntKind.i64 imm) < (131072 : Int))) then
                (Tree.leaf (SV.b true))
              else
                (Tree.leaf (SV.b false)))
            else
              (Tree.leaf (SV.b false)))
          else
            (Tree.leaf (SV.b false)))
        else
          (Tree.leaf (SV.b false)))
      else
        (Tree.leaf (SV.b false)))
    else
      (Tree.leaf (SV.b false)))
  else
    (Tree.leaf (SV.b false)) := by kernel_rfl
theorem t_c_ref02_May_15 (rd ra rb imm : Int) : evF E_ref02_May 60 104 [.agg (instrC ⟨15, rd, ra, rb, imm⟩)] = 
  bif (decide (rd ≥ (0 : Int))) then
    (bif (decide (rd ≤ (15 : Int))) then
      (bif (decide (ra ≥ (0 : Int))) then
        (bif (decide (ra ≤ (15 : Int))) then
          (bif (BEq.beq rb (0 : Int)) then
            (bif (decide ((IntKind.wrap IntKind.i64 imm) ≥ (-131072 : Int))) then
              (bif (decide ((IntKind.wrap IntKind.i64 imm) < (131072 : Int))) then
                (Tree.leaf (SV.b true))
              else
                (Tree.leaf (SV.b false)))
            else
              (Tree.leaf (SV.b false)))
          else
            (Tree.leaf (SV.b false)))
        else
          (Tree.leaf (SV.b false)))
      else
        (Tree.leaf (SV.b false)))
    else
      (Tree.leaf (SV.b false)))
  else
    (Tree.leaf (SV.b false)) := by kernel_rfl
theorem t_c_ref02_May_16 (rd ra rb imm : Int) : evF E_ref02_May 60 104 [.agg (instrC ⟨16, rd, ra, rb, imm⟩)] = 
  bif (decide (rd ≥ (0 : Int))) then
    (bif (decide (rd ≤ (15 : Int))) then
      (bif (decide (ra ≥ (0 : Int))) then
        (bif (decide (ra ≤ (15 : Int))) then
          (bif (BEq.beq rb (0 : Int)) then
            (bif (decide ((IntKind.wrap IntKind.i64 imm) ≥ (-131072 : Int))) then
              (bif (decide ((IntKind.wrap IntKind.i64 imm) < (131072 : Int))) then
                (Tree.leaf (SV.b true))
              else
                (Tree.leaf (SV.b false)))
            else
              (Tree.leaf (SV.b false)))
          else
            (Tree.leaf (SV.b false)))
        else
          (Tree.leaf (SV.b false)))
      else
        (Tree.leaf (SV.b false)))
    else
      (Tree.leaf (SV.b false)))
  else
    (Tree.leaf (SV.b false)) := by kernel_rfl
theorem t_c_ref02_May_17 (rd ra rb imm : Int) : evF E_ref02_May 60 104 [.agg (instrC ⟨17, rd, ra, rb, imm⟩)] = 
  bif (decide (rd ≥ (0 : Int))) then
    (bif (decide (rd ≤ (15 : Int))) then
      (bif (decide (ra ≥ (0 : Int))) then
        (bif (decide (ra ≤ (15 : Int))) then
          (bif (BEq.beq rb (0 : Int)) then
            (bif (decide ((IntKind.wrap IntKind.i64 imm) ≥ (-131072 : Int))) then
              (bif (decide ((IntKind.wrap IntKind.i64 imm) < (131072 : Int))) then
                (Tree.leaf (SV.b true))
              else
                (Tree.leaf (SV.b false)))
            else
              (Tree.leaf (SV.b false)))
          else
            (Tree.leaf (SV.b false)))
        else
          (Tree.leaf (SV.b false)))
      else
        (Tree.leaf (SV.b false)))
    else
      (Tree.leaf (SV.b false)))
  else
    (Tree.leaf (SV.b false)) := by kernel_rfl
theorem t_c_ref02_May_18 (rd ra rb imm : Int) : evF E_ref02_May 60 104 [.agg (instrC ⟨18, rd, ra, rb, imm⟩)] = 
  bif (decide (rd ≥ (0 : Int))) then
    (bif (decide (rd ≤ (15 : Int))) then
      (bif (BEq.beq ra (0 : Int)) then
        (bif (BEq.beq rb (0 : Int)) then
          (bif (decide ((IntKind.wrap IntKind.i64 imm) ≥ (-131072 : Int))) then
            (bif (decide ((IntKind.wrap IntKind.i64 imm) < (131072 : Int))) then
              (Tree.leaf (SV.b true))
            else
              (Tree.leaf (SV.b false)))
          else
            (Tree.leaf (SV.b false)))
        else
          (Tree.leaf (SV.b false)))
      else
        (Tree.leaf (SV.b false)))
    else
      (Tree.leaf (SV.b false)))
  else
    (Tree.leaf (SV.b false)) := by kernel_rfl
theorem t_c_ref02_May_19 (rd ra rb imm : Int) : evF E_ref02_May 60 104 [.agg (instrC ⟨19, rd, ra, rb, imm⟩)] = 
  bif (decide (rd ≥ (0 : Int))) then
    (bif (decide (rd ≤ (15 : Int))) then
      (bif (decide (ra ≥ (0 : Int))) then
        (bif (decide (ra ≤ (15 : Int))) then
          (bif (BEq.beq rb (0 : Int)) then
            (bif (decide ((IntKind.wrap IntKind.i64 imm) ≥ (-131072 : Int))) then
              (bif (decide ((IntKind.wrap IntKind.i64 imm) < (131072 : Int))) then
                (Tree.leaf (SV.b true))
              else
                (Tree.leaf (SV.b false)))
            else
              (Tree.leaf (SV.b false)))
          else
            (Tree.leaf (SV.b false)))
        else
          (Tree.leaf (SV.b false)))
      else
        (Tree.leaf (SV.b false)))
    else
      (Tree.leaf (SV.b false)))
  else
    (Tree.leaf (SV.b false)) := by kernel_rfl
theorem t_c_ref02_May_20 (rd ra rb imm : Int) : evF E_ref02_May 60 104 [.agg (instrC ⟨20, rd, ra, rb, imm⟩)] = 
  bif (BEq.beq rd (0 : Int)) then
    (bif (BEq.beq ra (0 : Int)) then
      (bif (BEq.beq rb (0 : Int)) then
        (bif (BEq.beq imm (0 : Int)) then
          (Tree.leaf (SV.b true))
        else
          (Tree.leaf (SV.b false)))
      else
        (Tree.leaf (SV.b false)))
    else
      (Tree.leaf (SV.b false)))
  else
    (Tree.leaf (SV.b false)) := by kernel_rfl
theorem t_c_ref02_May_21 (rd ra rb imm : Int) : evF E_ref02_May 60 104 [.agg (instrC ⟨21, rd, ra, rb, imm⟩)] = 
  bif (decide (rd ≥ (0 : Int))) then
    (bif (decide (rd ≤ (15 : Int))) then
      (bif (BEq.beq ra (0 : Int)) then
        (bif (BEq.beq rb (0 : Int)) then
          (bif (decide (imm ≥ (0 : Int))) then
            (bif (decide (imm ≤ (11 : Int))) then
              (Tree.leaf (SV.b true))
            else
              (Tree.leaf (SV.b false)))
          else
            (Tree.leaf (SV.b false)))
        else
          (Tree.leaf (SV.b false)))
      else
        (Tree.leaf (SV.b false)))
    else
      (Tree.leaf (SV.b false)))
  else
    (Tree.leaf (SV.b false)) := by kernel_rfl
theorem t_c_ref02_May_22 (rd ra rb imm : Int) : evF E_ref02_May 60 104 [.agg (instrC ⟨22, rd, ra, rb, imm⟩)] = 
  bif (BEq.beq rd (0 : Int)) then
    (bif (decide (ra ≥ (0 : Int))) then
      (bif (decide (ra ≤ (15 : Int))) then
        (bif (BEq.beq rb (0 : Int)) then
          (bif (decide (imm ≥ (0 : Int))) then
            (bif (decide (imm ≤ (11 : Int))) then
              (Tree.leaf (SV.b true))
            else
              (Tree.leaf (SV.b false)))
          else
            (Tree.leaf (SV.b false)))
        else
          (Tree.leaf (SV.b false)))
      else
        (Tree.leaf (SV.b false)))
    else
      (Tree.leaf (SV.b false)))
  else
    (Tree.leaf (SV.b false)) := by kernel_rfl
theorem t_c_ref02_May_23 (rd ra rb imm : Int) : evF E_ref02_May 60 104 [.agg (instrC ⟨23, rd, ra, rb, imm⟩)] = 
  bif (BEq.beq rd (0 : Int)) then
    (bif (BEq.beq ra (0 : Int)) then
      (bif (BEq.beq rb (0 : Int)) then
        (bif (BEq.beq imm (0 : Int)) then
          (Tree.leaf (SV.b true))
        else
          (Tree.leaf (SV.b false)))
      else
        (Tree.leaf (SV.b false)))
    else
      (Tree.leaf (SV.b false)))
  else
    (Tree.leaf (SV.b false)) := by kernel_rfl
theorem t_c_ref02_May_24 (rd ra rb imm : Int) : evF E_ref02_May 60 104 [.agg (instrC ⟨24, rd, ra, rb, imm⟩)] = 
  bif (BEq.beq rd (0 : Int)) then
    (bif (BEq.beq ra (0 : Int)) then
      (bif (BEq.beq rb (0 : Int)) then
        (bif (BEq.beq imm (0 : Int)) then
          (Tree.leaf (SV.b true))
        else
          (Tree.leaf (SV.b false)))
      else
        (Tree.leaf (SV.b false)))
    else
      (Tree.leaf (SV.b false)))
  else
    (Tree.leaf (SV.b false)) := by kernel_rfl
theorem t_c_ref02_May_25 (rd ra rb imm : Int) : evF E_ref02_May 60 104 [.agg (instrC ⟨25, rd, ra, rb, imm⟩)] = 
  bif (BEq.beq rd (0 : Int)) then
    (bif (decide (ra ≥ (0 : Int))) then
      (bif (decide (ra ≤ (15 : Int))) then
        (bif (BEq.beq rb (0 : Int)) then
          (bif (BEq.beq imm (0 : Int)) then
            (Tree.leaf (SV.b true))
          else
            (Tree.leaf (SV.b false)))
        else
          (Tree.leaf (SV.b false)))
      else
        (Tree.leaf (SV.b false)))
    else
      (Tree.leaf (SV.b false)))
  else
    (Tree.leaf (SV.b false)) := by kernel_rfl
theorem t_c_ref02_May_n (m : Nat) (rd ra rb imm : Int) : evF E_ref02_May 60 104 [.agg (instrC ⟨.negSucc m, rd, ra, rb, imm⟩)] = .leaf (.b false) := by kernel_rfl
theorem t_c_ref02_May_o (m : Nat) (rd ra rb imm : Int) : evF E_ref02_May 60 104 [.agg (instrC ⟨.ofNat (m + 26), rd, ra, rb, imm⟩)] = .leaf (.b false) := by kernel_rfl
theorem a_c_ref02_May (i : PInstr) (ok_i : okInstr i) : (evF E_ref02_May 60 104 [.agg (instrC i)]).ends fun out_ => decO [.b] out_ = some (K.may i) := by
  obtain ⟨op, rd, ra, rb, imm⟩ := i
  obtain ⟨im0, im1⟩ := okI_i32 ok_i.imm
  have ew : IntKind.i64.wrap imm = imm := wrapI64 (by simp only at im0; omega) (by simp only at im1; omega)
  clear ok_i im0 im1
  have out : (op < 0 ∨ 26 ≤ op) → K.form op = 0 := fun h => by unfold K.form; (repeat' split) <;> first | rfl | omega
  rcases op_cases op with ⟨m, rfl⟩ | ⟨m, rfl⟩ | rfl | rfl | rfl | rfl | rfl | rfl | rfl | rfl | rfl | rfl | rfl | rfl | rfl | rfl | rfl | rfl | rfl | rfl | rfl | rfl | rfl | rfl | rfl | rfl | rfl | rfl 
  · rw [t_c_ref02_May_n, Tree.ends_holds]; simp only [Tree.holds_loop, Tree.holds_fork, Tree.holds_next, if_true, Tree.holds_cond, Tree.holds_letv, Tree.holds_leaf, Tree.holds_fail, decO, decA, decTup, decMach, decCore, decTrap, decInstr, decPart, decGuest, decConf, decEvent, decVcpu, decStep, bytesS, boolS, eventsS, intsS, guestsS, vcpusS, rowS, castL, Option.bind_some, Option.map_some, Option.some.injEq, Nat.beq_refl, beq_self_eq_true, Bool.and_self, cond_true, cond_false, eq_self, K.may, out (.inl (Int.negSucc_lt_zero m))]; rfl
  · rw [t_c_ref02_May_o, Tree.ends_holds]; simp only [Tree.holds_loop, Tree.holds_fork, Tree.holds_next, if_true, Tree.holds_cond, Tree.holds_letv, Tree.holds_leaf, Tree.holds_fail, decO, decA, decTup, decMach, decCore, decTrap, decInstr, decPart, decGuest, decConf, decEvent, decVcpu, decStep, bytesS, boolS, eventsS, intsS, guestsS, vcpusS, rowS, castL, Option.bind_some, Option.map_some, Option.some.injEq, Nat.beq_refl, beq_self_eq_true, Bool.and_self, cond_true, cond_false, eq_self, K.may, out (.inr (show (26 : Int) ≤ Int.ofNat (m + 26) by simp; omega))]; rfl

  · rw [t_c_ref02_May_0, Tree.ends_holds]; simp only [Tree.holds_loop, Tree.holds_fork, Tree.holds_next, if_true, Tree.holds_cond, Tree.holds_letv, Tree.holds_leaf, Tree.holds_fail, decO, decA, decTup, decMach, decCore, decTrap, decInstr, decPart, decGuest, decConf, decEvent, decVcpu, decStep, bytesS, boolS, eventsS, intsS, guestsS, vcpusS, rowS, castL, Option.bind_some, Option.map_some, Option.some.injEq, Nat.beq_refl, beq_self_eq_true, Bool.and_self, cond_true, cond_false, eq_self, beq_iff_eq, beq_eq_false_iff_ne, bne_iff_ne, bne_eq_false_iff_eq, ne_eq, decide_eq_true_eq, decide_eq_false_iff_not, ble_true, ble_false, inRange_iff, inRange_false, K.may, form_0, K.regOk, ew]
    clear out
    repeat' (first | refine drop_ok ?_ | intro _ | with_reducible apply And.intro)
    all_goals grind

  · rw [t_c_ref02_May_1, Tree.ends_holds]; simp only [Tree.holds_loop, Tree.holds_fork, Tree.holds_next, if_true, Tree.holds_cond, Tree.holds_letv, Tree.holds_leaf, Tree.holds_fail, decO, decA, decTup, decMach, decCore, decTrap, decInstr, decPart, decGuest, decConf, decEvent, decVcpu, decStep, bytesS, boolS, eventsS, intsS, guestsS, vcpusS, rowS, castL, Option.bind_some, Option.map_some, Option.some.injEq, Nat.beq_refl, beq_self_eq_true, Bool.and_self, cond_true, cond_false, eq_self, beq_iff_eq, beq_eq_false_iff_ne, bne_iff_ne, bne_eq_false_iff_eq, ne_eq, decide_eq_true_eq, decide_eq_false_iff_not, ble_true, ble_false, inRange_iff, inRange_false, K.may, form_1, K.regOk, ew]
    clear out
    repeat' (first | refine drop_ok ?_ | intro _ | with_reducible apply And.intro)
    all_goals grind

  · rw [t_c_ref02_May_2, Tree.ends_holds]; simp only [Tree.holds_loop, Tree.holds_fork, Tree.holds_next, if_true, Tree.holds_cond, Tree.holds_letv, Tree.holds_leaf, Tree.holds_fail, decO, decA, decTup, decMach, decCore, decTrap, decInstr, decPart, decGuest, decConf, decEvent, decVcpu, decStep, bytesS, boolS, eventsS, intsS, guestsS, vcpusS, rowS, castL, Option.bind_some, Option.map_some, Option.some.injEq, Nat.beq_refl, beq_self_eq_true, Bool.and_self, cond_true, cond_false, eq_self, beq_iff_eq, beq_eq_false_iff_ne, bne_iff_ne, bne_eq_false_iff_eq, ne_eq, decide_eq_true_eq, decide_eq_false_iff_not, ble_true, ble_false, inRange_iff, inRange_false, K.may, form_2, K.regOk, ew]
    clear out
    repeat' (first | refine drop_ok ?_ | intro _ | with_reducible apply And.intro)
    all_goals grind

  · rw [t_c_ref02_May_3, Tree.ends_holds]; simp only [Tree.holds_loop, Tree.holds_fork, Tree.holds_next, if_true, Tree.holds_cond, Tree.holds_letv, Tree.holds_leaf, Tree.holds_fail, decO, decA, decTup, decMach, decCore, decTrap, decInstr, decPart, decGuest, decConf, decEvent, decVcpu, decStep, bytesS, boolS, eventsS, intsS, guestsS, vcpusS, rowS, castL, Option.bind_some, Option.map_some, Option.some.injEq, Nat.beq_refl, beq_self_eq_true, Bool.and_self, cond_true, cond_false, eq_self, beq_iff_eq, beq_eq_false_iff_ne, bne_iff_ne, bne_eq_false_iff_eq, ne_eq, decide_eq_true_eq, decide_eq_false_iff_not, ble_true, ble_false, inRange_iff, inRange_false, K.may, form_3, K.regOk, ew]
    clear out
    repeat' (first | refine drop_ok ?_ | intro _ | with_reducible apply And.intro)
    all_goals grind

  · rw [t_c_ref02_May_4, Tree.ends_holds]; simp only [Tree.holds_loop, Tree.holds_fork, Tree.holds_next, if_true, Tree.holds_cond, Tree.holds_letv, Tree.holds_leaf, Tree.holds_fail, decO, decA, decTup, decMach, decCore, decTrap, decInstr, decPart, decGuest, decConf, decEvent, decVcpu, decStep, bytesS, boolS, eventsS, intsS, guestsS, vcpusS, rowS, castL, Option.bind_some, Option.map_some, Option.some.injEq, Nat.beq_refl, beq_self_eq_true, Bool.and_self, cond_true, cond_false, eq_self, beq_iff_eq, beq_eq_false_iff_ne, bne_iff_ne, bne_eq_false_iff_eq, ne_eq, decide_eq_true_eq, decide_eq_false_iff_not, ble_true, ble_false, inRange_iff, inRange_false, K.may, form_4, K.regOk, ew]
    clear out
    repeat' (first | refine drop_ok ?_ | intro _ | with_reducible apply And.intro)
    all_goals grind

  · rw [t_c_ref02_May_5, Tree.ends_holds]; simp only [Tree.holds_loop, Tree.holds_fork, Tree.holds_next, if_true, Tree.holds_cond, Tree.holds_letv, Tree.holds_leaf, Tree.holds_fail, decO, decA, decTup, decMach, decCore, decTrap, decInstr, decPart, decGuest, decConf, decEvent, decVcpu, decStep, bytesS, boolS, eventsS, intsS, guestsS, vcpusS, rowS, castL, Option.bind_some, Option.map_some, Option.some.injEq, Nat.beq_refl, beq_self_eq_true, Bool.and_self, cond_true, cond_false, eq_self, beq_iff_eq, beq_eq_false_iff_ne, bne_iff_ne, bne_eq_false_iff_eq, ne_eq, decide_eq_true_eq, decide_eq_false_iff_not, ble_true, ble_false, inRange_iff, inRange_false, K.may, form_5, K.regOk, ew]
    clear out
    repeat' (first | refine drop_ok ?_ | intro _ | with_reducible apply And.intro)
    all_goals grind

  · rw [t_c_ref02_May_6, Tree.ends_holds]; simp only [Tree.holds_loop, Tree.holds_fork, Tree.holds_next, if_true, Tree.holds_cond, Tree.holds_letv, Tree.holds_leaf, Tree.holds_fail, decO, decA, decTup, decMach, decCore, decTrap, decInstr, decPart, decGuest, decConf, decEvent, decVcpu, decStep, bytesS, boolS, eventsS, intsS, guestsS, vcpusS, rowS, castL, Option.bind_some, Option.map_some, Option.some.injEq, Nat.beq_refl, beq_self_eq_true, Bool.and_self, cond_true, cond_false, eq_self, beq_iff_eq, beq_eq_false_iff_ne, bne_iff_ne, bne_eq_false_iff_eq, ne_eq, decide_eq_true_eq, decide_eq_false_iff_not, ble_true, ble_false, inRange_iff, inRange_false, K.may, form_6, K.regOk, ew]
    clear out
    repeat' (first | refine drop_ok ?_ | intro _ | with_reducible apply And.intro)
    all_goals grind

  · rw [t_c_ref02_May_7, Tree.ends_holds]; simp only [Tree.holds_loop, Tree.holds_fork, Tree.holds_next, if_true, Tree.holds_cond, Tree.holds_letv, Tree.holds_leaf, Tree.holds_fail, decO, decA, decTup, decMach, decCore, decTrap, decInstr, decPart, decGuest, decConf, decEvent, decVcpu, decStep, bytesS, boolS, eventsS, intsS, guestsS, vcpusS, rowS, castL, Option.bind_some, Option.map_some, Option.some.injEq, Nat.beq_refl, beq_self_eq_true, Bool.and_self, cond_true, cond_false, eq_self, beq_iff_eq, beq_eq_false_iff_ne, bne_iff_ne, bne_eq_false_iff_eq, ne_eq, decide_eq_true_eq, decide_eq_false_iff_not, ble_true, ble_false, inRange_iff, inRange_false, K.may, form_7, K.regOk, ew]
    clear out
    repeat' (first | refine drop_ok ?_ | intro _ | with_reducible apply And.intro)
    all_goals grind

  · rw [t_c_ref02_May_8, Tree.ends_holds]; simp only [Tree.holds_loop, Tree.holds_fork, Tree.holds_next, if_true, Tree.holds_cond, Tree.holds_letv, Tree.holds_leaf, Tree.holds_fail, decO, decA, decTup, decMach, decCore, decTrap, decInstr, decPart, decGuest, decConf, decEvent, decVcpu, decStep, bytesS, boolS, eventsS, intsS, guestsS, vcpusS, rowS, castL, Option.bind_some, Option.map_some, Option.some.injEq, Nat.beq_refl, beq_self_eq_true, Bool.and_self, cond_true, cond_false, eq_self, beq_iff_eq, beq_eq_false_iff_ne, bne_iff_ne, bne_eq_false_iff_eq, ne_eq, decide_eq_true_eq, decide_eq_false_iff_not, ble_true, ble_false, inRange_iff, inRange_false, K.may, form_8, K.regOk, ew]
    clear out
    repeat' (first | refine drop_ok ?_ | intro _ | with_reducible apply And.intro)
    all_goals grind

  · rw [t_c_ref02_May_9, Tree.ends_holds]; simp only [Tree.holds_loop, Tree.holds_fork, Tree.holds_next, if_true, Tree.holds_cond, Tree.holds_letv, Tree.holds_leaf, Tree.holds_fail, decO, decA, decTup, decMach, decCore, decTrap, decInstr, decPart, decGuest, decConf, decEvent, decVcpu, decStep, bytesS, boolS, eventsS, intsS, guestsS, vcpusS, rowS, castL, Option.bind_some, Option.map_some, Option.some.injEq, Nat.beq_refl, beq_self_eq_true, Bool.and_self, cond_true, cond_false, eq_self, beq_iff_eq, beq_eq_false_iff_ne, bne_iff_ne, bne_eq_false_iff_eq, ne_eq, decide_eq_true_eq, decide_eq_false_iff_not, ble_true, ble_false, inRange_iff, inRange_false, K.may, form_9, K.regOk, ew]
    clear out
    repeat' (first | refine drop_ok ?_ | intro _ | with_reducible apply And.intro)
    all_goals grind

  · rw [t_c_ref02_May_10, Tree.ends_holds]; simp only [Tree.holds_loop, Tree.holds_fork, Tree.holds_next, if_true, Tree.holds_cond, Tree.holds_letv, Tree.holds_leaf, Tree.holds_fail, decO, decA, decTup, decMach, decCore, decTrap, decInstr, decPart, decGuest, decConf, decEvent, decVcpu, decStep, bytesS, boolS, eventsS, intsS, guestsS, vcpusS, rowS, castL, Option.bind_some, Option.map_some, Option.some.injEq, Nat.beq_refl, beq_self_eq_true, Bool.and_self, cond_true, cond_false, eq_self, beq_iff_eq, beq_eq_false_iff_ne, bne_iff_ne, bne_eq_false_iff_eq, ne_eq, decide_eq_true_eq, decide_eq_false_iff_not, ble_true, ble_false, inRange_iff, inRange_false, K.may, form_10, K.regOk, ew]
    clear out
    repeat' (first | refine drop_ok ?_ | intro _ | with_reducible apply And.intro)
    all_goals grind

  · rw [t_c_ref02_May_11, Tree.ends_holds]; simp only [Tree.holds_loop, Tree.holds_fork, Tree.holds_next, if_true, Tree.holds_cond, Tree.holds_letv, Tree.holds_leaf, Tree.holds_fail, decO, decA, decTup, decMach, decCore, decTrap, decInstr, decPart, decGuest, decConf, decEvent, decVcpu, decStep, bytesS, boolS, eventsS, intsS, guestsS, vcpusS, rowS, castL, Option.bind_some, Option.map_some, Option.some.injEq, Nat.beq_refl, beq_self_eq_true, Bool.and_self, cond_true, cond_false, eq_self, beq_iff_eq, beq_eq_false_iff_ne, bne_iff_ne, bne_eq_false_iff_eq, ne_eq, decide_eq_true_eq, decide_eq_false_iff_not, ble_true, ble_false, inRange_iff, inRange_false, K.may, form_11, K.regOk, ew]
    clear out
    repeat' (first | refine drop_ok ?_ | intro _ | with_reducible apply And.intro)
    all_goals grind

  · rw [t_c_ref02_May_12, Tree.ends_holds]; simp only [Tree.holds_loop, Tree.holds_fork, Tree.holds_next, if_true, Tree.holds_cond, Tree.holds_letv, Tree.holds_leaf, Tree.holds_fail, decO, decA, decTup, decMach, decCore, decTrap, decInstr, decPart, decGuest, decConf, decEvent, decVcpu, decStep, bytesS, boolS, eventsS, intsS, guestsS, vcpusS, rowS, castL, Option.bind_some, Option.map_some, Option.some.injEq, Nat.beq_refl, beq_self_eq_true, Bool.and_self, cond_true, cond_false, eq_self, beq_iff_eq, beq_eq_false_iff_ne, bne_iff_ne, bne_eq_false_iff_eq, ne_eq, decide_eq_true_eq, decide_eq_false_iff_not, ble_true, ble_false, inRange_iff, inRange_false, K.may, form_12, K.regOk, ew]
    clear out
    repeat' (first | refine drop_ok ?_ | intro _ | with_reducible apply And.intro)
    all_goals grind

  · rw [t_c_ref02_May_13, Tree.ends_holds]; simp only [Tree.holds_loop, Tree.holds_fork, Tree.holds_next, if_true, Tree.holds_cond, Tree.holds_letv, Tree.holds_leaf, Tree.holds_fail, decO, decA, decTup, decMach, decCore, decTrap, decInstr, decPart, decGuest, decConf, decEvent, decVcpu, decStep, bytesS, boolS, eventsS, intsS, guestsS, vcpusS, rowS, castL, Option.bind_some, Option.map_some, Option.some.injEq, Nat.beq_refl, beq_self_eq_true, Bool.and_self, cond_true, cond_false, eq_self, beq_iff_eq, beq_eq_false_iff_ne, bne_iff_ne, bne_eq_false_iff_eq, ne_eq, decide_eq_true_eq, decide_eq_false_iff_not, ble_true, ble_false, inRange_iff, inRange_false, K.may, form_13, K.regOk, ew]
    clear out
    repeat' (first | refine drop_ok ?_ | intro _ | with_reducible apply And.intro)
    all_goals grind

  · rw [t_c_ref02_May_14, Tree.ends_holds]; simp only [Tree.holds_loop, Tree.holds_fork, Tree.holds_next, if_true, Tree.holds_cond, Tree.holds_letv, Tree.holds_leaf, Tree.holds_fail, decO, decA, decTup, decMach, decCore, decTrap, decInstr, decPart, decGuest, decConf, decEvent, decVcpu, decStep, bytesS, boolS, eventsS, intsS, guestsS, vcpusS, rowS, castL, Option.bind_some, Option.map_some, Option.some.injEq, Nat.beq_refl, beq_self_eq_true, Bool.and_self, cond_true, cond_false, eq_self, beq_iff_eq, beq_eq_false_iff_ne, bne_iff_ne, bne_eq_false_iff_eq, ne_eq, decide_eq_true_eq, decide_eq_false_iff_not, ble_true, ble_false, inRange_iff, inRange_false, K.may, form_14, K.regOk, ew]
    clear out
    repeat' (first | refine drop_ok ?_ | intro _ | with_reducible apply And.intro)
    all_goals grind

  · rw [t_c_ref02_May_15, Tree.ends_holds]; simp only [Tree.holds_loop, Tree.holds_fork, Tree.holds_next, if_true, Tree.holds_cond, Tree.holds_letv, Tree.holds_leaf, Tree.holds_fail, decO, decA, decTup, decMach, decCore, decTrap, decInstr, decPart, decGuest, decConf, decEvent, decVcpu, decStep, bytesS, boolS, eventsS, intsS, guestsS, vcpusS, rowS, castL, Option.bind_some, Option.map_some, Option.some.injEq, Nat.beq_refl, beq_self_eq_true, Bool.and_self, cond_true, cond_false, eq_self, beq_iff_eq, beq_eq_false_iff_ne, bne_iff_ne, bne_eq_false_iff_eq, ne_eq, decide_eq_true_eq, decide_eq_false_iff_not, ble_true, ble_false, inRange_iff, inRange_false, K.may, form_15, K.regOk, ew]
    clear out
    repeat' (first | refine drop_ok ?_ | intro _ | with_reducible apply And.intro)
    all_goals grind

  · rw [t_c_ref02_May_16, Tree.ends_holds]; simp only [Tree.holds_loop, Tree.holds_fork, Tree.holds_next, if_true, Tree.holds_cond, Tree.holds_letv, Tree.holds_leaf, Tree.holds_fail, decO, decA, decTup, decMach, decCore, decTrap, decInstr, decPart, decGuest, decConf, decEvent, decVcpu, decStep, bytesS, boolS, eventsS, intsS, guestsS, vcpusS, rowS, castL, Option.bind_some, Option.map_some, Option.some.injEq, Nat.beq_refl, beq_self_eq_true, Bool.and_self, cond_true, cond_false, eq_self, beq_iff_eq, beq_eq_false_iff_ne, bne_iff_ne, bne_eq_false_iff_eq, ne_eq, decide_eq_true_eq, decide_eq_false_iff_not, ble_true, ble_false, inRange_iff, inRange_false, K.may, form_16, K.regOk, ew]
    clear out
    repeat' (first | refine drop_ok ?_ | intro _ | with_reducible apply And.intro)
    all_goals grind

  · rw [t_c_ref02_May_17, Tree.ends_holds]; simp only [Tree.holds_loop, Tree.holds_fork, Tree.holds_next, if_true, Tree.holds_cond, Tree.holds_letv, Tree.holds_leaf, Tree.holds_fail, decO, decA, decTup, decMach, decCore, decTrap, decInstr, decPart, decGuest, decConf, decEvent, decVcpu, decStep, bytesS, boolS, eventsS, intsS, guestsS, vcpusS, rowS, castL, Option.bind_some, Option.map_some, Option.some.injEq, Nat.beq_refl, beq_self_eq_true, Bool.and_self, cond_true, cond_false, eq_self, beq_iff_eq, beq_eq_false_iff_ne, bne_iff_ne, bne_eq_false_iff_eq, ne_eq, decide_eq_true_eq, decide_eq_false_iff_not, ble_true, ble_false, inRange_iff, inRange_false, K.may, form_17, K.regOk, ew]
    clear out
    repeat' (first | refine drop_ok ?_ | intro _ | with_reducible apply And.intro)
    all_goals grind

  · rw [t_c_ref02_May_18, Tree.ends_holds]; simp only [Tree.holds_loop, Tree.holds_fork, Tree.holds_next, if_true, Tree.holds_cond, Tree.holds_letv, Tree.holds_leaf, Tree.holds_fail, decO, decA, decTup, decMach, decCore, decTrap, decInstr, decPart, decGuest, decConf, decEvent, decVcpu, decStep, bytesS, boolS, eventsS, intsS, guestsS, vcpusS, rowS, castL, Option.bind_some, Option.map_some, Option.some.injEq, Nat.beq_refl, beq_self_eq_true, Bool.and_self, cond_true, cond_false, eq_self, beq_iff_eq, beq_eq_false_iff_ne, bne_iff_ne, bne_eq_false_iff_eq, ne_eq, decide_eq_true_eq, decide_eq_false_iff_not, ble_true, ble_false, inRange_iff, inRange_false, K.may, form_18, K.regOk, ew]
    clear out
    repeat' (first | refine drop_ok ?_ | intro _ | with_reducible apply And.intro)
    all_goals grind

  · rw [t_c_ref02_May_19, Tree.ends_holds]; simp only [Tree.holds_loop, Tree.holds_fork, Tree.holds_next, if_true, Tree.holds_cond, Tree.holds_letv, Tree.holds_leaf, Tree.holds_fail, decO, decA, decTup, decMach, decCore, decTrap, decInstr, decPart, decGuest, decConf, decEvent, decVcpu, decStep, bytesS, boolS, eventsS, intsS, guestsS, vcpusS, rowS, castL, Option.bind_some, Option.map_some, Option.some.injEq, Nat.beq_refl, beq_self_eq_true, Bool.and_self, cond_true, cond_false, eq_self, beq_iff_eq, beq_eq_false_iff_ne, bne_iff_ne, bne_eq_false_iff_eq, ne_eq, decide_eq_true_eq, decide_eq_false_iff_not, ble_true, ble_false, inRange_iff, inRange_false, K.may, form_19, K.regOk, ew]
    clear out
    repeat' (first | refine drop_ok ?_ | intro _ | with_reducible apply And.intro)
    all_goals grind

  · rw [t_c_ref02_May_20, Tree.ends_holds]; simp only [Tree.holds_loop, Tree.holds_fork, Tree.holds_next, if_true, Tree.holds_cond, Tree.holds_letv, Tree.holds_leaf, Tree.holds_fail, decO, decA, decTup, decMach, decCore, decTrap, decInstr, decPart, decGuest, decConf, decEvent, decVcpu, decStep, bytesS, boolS, eventsS, intsS, guestsS, vcpusS, rowS, castL, Option.bind_some, Option.map_some, Option.some.injEq, Nat.beq_refl, beq_self_eq_true, Bool.and_self, cond_true, cond_false, eq_self, beq_iff_eq, beq_eq_false_iff_ne, bne_iff_ne, bne_eq_false_iff_eq, ne_eq, decide_eq_true_eq, decide_eq_false_iff_not, ble_true, ble_false, inRange_iff, inRange_false, K.may, form_20, K.regOk, ew]
    clear out
    repeat' (first | refine drop_ok ?_ | intro _ | with_reducible apply And.intro)
    all_goals grind

  · rw [t_c_ref02_May_21, Tree.ends_holds]; simp only [Tree.holds_loop, Tree.holds_fork, Tree.holds_next, if_true, Tree.holds_cond, Tree.holds_letv, Tree.holds_leaf, Tree.holds_fail, decO, decA, decTup, decMach, decCore, decTrap, decInstr, decPart, decGuest, decConf, decEvent, decVcpu, decStep, bytesS, boolS, eventsS, intsS, guestsS, vcpusS, rowS, castL, Option.bind_some, Option.map_some, Option.some.injEq, Nat.beq_refl, beq_self_eq_true, Bool.and_self, cond_true, cond_false, eq_self, beq_iff_eq, beq_eq_false_iff_ne, bne_iff_ne, bne_eq_false_iff_eq, ne_eq, decide_eq_true_eq, decide_eq_false_iff_not, ble_true, ble_false, inRange_iff, inRange_false, K.may, form_21, K.regOk, ew]
    clear out
    repeat' (first | refine drop_ok ?_ | intro _ | with_reducible apply And.intro)
    all_goals grind

  · rw [t_c_ref02_May_22, Tree.ends_holds]; simp only [Tree.holds_loop, Tree.holds_fork, Tree.holds_next, if_true, Tree.holds_cond, Tree.holds_letv, Tree.holds_leaf, Tree.holds_fail, decO, decA, decTup, decMach, decCore, decTrap, decInstr, decPart, decGuest, decConf, decEvent, decVcpu, decStep, bytesS, boolS, eventsS, intsS, guestsS, vcpusS, rowS, castL, Option.bind_some, Option.map_some, Option.some.injEq, Nat.beq_refl, beq_self_eq_true, Bool.and_self, cond_true, cond_false, eq_self, beq_iff_eq, beq_eq_false_iff_ne, bne_iff_ne, bne_eq_false_iff_eq, ne_eq, decide_eq_true_eq, decide_eq_false_iff_not, ble_true, ble_false, inRange_iff, inRange_false, K.may, form_22, K.regOk, ew]
    clear out
    repeat' (first | refine drop_ok ?_ | intro _ | with_reducible apply And.intro)
    all_goals grind

  · rw [t_c_ref02_May_23, Tree.ends_holds]; simp only [Tree.holds_loop, Tree.holds_fork, Tree.holds_next, if_true, Tree.holds_cond, Tree.holds_letv, Tree.holds_leaf, Tree.holds_fail, decO, decA, decTup, decMach, decCore, decTrap, decInstr, decPart, decGuest, decConf, decEvent, decVcpu, decStep, bytesS, boolS, eventsS, intsS, guestsS, vcpusS, rowS, castL, Option.bind_some, Option.map_some, Option.some.injEq, Nat.beq_refl, beq_self_eq_true, Bool.and_self, cond_true, cond_false, eq_self, beq_iff_eq, beq_eq_false_iff_ne, bne_iff_ne, bne_eq_false_iff_eq, ne_eq, decide_eq_true_eq, decide_eq_false_iff_not, ble_true, ble_false, inRange_iff, inRange_false, K.may, form_23, K.regOk, ew]
    clear out
    repeat' (first | refine drop_ok ?_ | intro _ | with_reducible apply And.intro)
    all_goals grind

  · rw [t_c_ref02_May_24, Tree.ends_holds]; simp only [Tree.holds_loop, Tree.holds_fork, Tree.holds_next, if_true, Tree.holds_cond, Tree.holds_letv, Tree.holds_leaf, Tree.holds_fail, decO, decA, decTup, decMach, decCore, decTrap, decInstr, decPart, decGuest, decConf, decEvent, decVcpu, decStep, bytesS, boolS, eventsS, intsS, guestsS, vcpusS, rowS, castL, Option.bind_some, Option.map_some, Option.some.injEq, Nat.beq_refl, beq_self_eq_true, Bool.and_self, cond_true, cond_false, eq_self, beq_iff_eq, beq_eq_false_iff_ne, bne_iff_ne, bne_eq_false_iff_eq, ne_eq, decide_eq_true_eq, decide_eq_false_iff_not, ble_true, ble_false, inRange_iff, inRange_false, K.may, form_24, K.regOk, ew]
    clear out
    repeat' (first | refine drop_ok ?_ | intro _ | with_reducible apply And.intro)
    all_goals grind

  · rw [t_c_ref02_May_25, Tree.ends_holds]; simp only [Tree.holds_loop, Tree.holds_fork, Tree.holds_next, if_true, Tree.holds_cond, Tree.holds_letv, Tree.holds_leaf, Tree.holds_fail, decO, decA, decTup, decMach, decCore, decTrap, decInstr, decPart, decGuest, decConf, decEvent, decVcpu, decStep, bytesS, boolS, eventsS, intsS, guestsS, vcpusS, rowS, castL, Option.bind_some, Option.map_some, Option.some.injEq, Nat.beq_refl, beq_self_eq_true, Bool.and_self, cond_true, cond_false, eq_self, beq_iff_eq, beq_eq_false_iff_ne, bne_iff_ne, bne_eq_false_iff_eq, ne_eq, decide_eq_true_eq, decide_eq_false_iff_not, ble_true, ble_false, inRange_iff, inRange_false, K.may, form_25, K.regOk, ew]
    clear out
    repeat' (first | refine drop_ok ?_ | intro _ | with_reducible apply And.intro)
    all_goals grind

theorem c_ref02_May : SpecOk EB 104 S_ref02_May := spec_sig ok_ref02_May (n := 60) fun ⟨i, ⟨⟩⟩ h hok => a_c_ref02_May i (ok_instr (okSL_head hok))


/-! ref01_Low -/

def S_ref01_Low : Spec := sig [.i .i32, .i .i64] [.i .u32] (fun (v, n, _) => v % 262144) (pre := fun (v, n, _) => decide (n = 18))
noncomputable def E_ref01_Low : Env := EB.adds [(70, S_ref01_Pow)]

theorem ok_ref01_Low : EnvOk E_ref01_Low := okEB.adds (l := _) ⟨c_ref01_Pow, trivial⟩

theorem t_ref01_Low (v : Int) (n : Int) : evF E_ref01_Low 60 105 (encArgs [.i .i32, .i .i64] (v, n, ())) = 
  bif (decide ((IntKind.wrap IntKind.i64 v) < (0 : Int))) then
    (bif (decide (n ≤ (63 : Int))) then
      (Tree.letv (okO [(AT.i IntKind.u64)]) (K.pow n) fun x0 =>
      (bif (bne x0 (0 : Int)) then
        (Tree.leaf (SV.v (Value.int IntKind.u32 (IntKind.wrap IntKind.u32 (Int.tmod (IntKind.wrap IntKind.u64 (IntKind.wrap IntKind.i64 ((IntKind.wrap IntKind.i64 v) + (4294967296 : Int)))) x0)))))
      else
        (Tree.fail)))
    else
      (Tree.fail))
  else
    (bif (decide (n ≤ (63 : Int))) then
      (Tree.letv (okO [(AT.i IntKind.u64)]) (K.pow n) fun x0 =>
      (bif (bne x0 (0 : Int)) then
        (Tree.leaf (SV.v (Value.int IntKind.u32 (IntKind.wrap IntKind.u32 (Int.tmod (IntKind.wrap IntKind.u64 (IntKind.wrap IntKind.i64 v)) x0)))))
      else
        (Tree.fail)))
    else
      (Tree.fail)) := by kernel_rfl
section
attribute [local irreducible] evF evFL
theorem a_ref01_Low (v : Int) (n : Int) (hpre : n = 18) (ok_v : okI .i32 v) (ok_n : okI .i64 n) : (evF E_ref01_Low 60 105 (encArgs [.i .i32, .i .i64] (v, n, ()))).ends fun out_ => decO [.i .u32] out_ = some (v % 262144) := by
  rw [t_ref01_Low, Tree.ends_holds]
  obtain ⟨v0, v1⟩ := okI_i32 ok_v
  subst hpre
  have e0 : IntKind.i64.wrap v = v := wrapI64 (by omega) (by omega)
  have e1 : K.pow 18 = 262144 := by decide
  have e3 : IntKind.i64.wrap (v + 4294967296) = v + 4294967296 := wrapI64 (by omega) (by omega)
  simp only [Tree.holds_loop, Tree.holds_fork, Tree.holds_next, if_true, Tree.holds_cond, Tree.holds_letv, Tree.holds_leaf, Tree.holds_fail, decO, decA, decTup, decMach, decCore, decTrap, decInstr, decPart, decGuest, decConf, decEvent, decVcpu, decStep, bytesS, boolS, eventsS, intsS, guestsS, vcpusS, rowS, castL, Option.bind_some, Option.map_some, Option.some.injEq, Nat.beq_refl, beq_self_eq_true, Bool.and_self, cond_true, cond_false, eq_self, beq_iff_eq, beq_eq_false_iff_ne, bne_iff_ne, bne_eq_false_iff_eq, ne_eq, decide_eq_true_eq, decide_eq_false_iff_not, ble_true, ble_false, inRange_iff, inRange_false, e0, e1, e3, wrap32, wrap64]
  have t1 : Int.tmod (v % 18446744073709551616) 262144 % 4294967296 = v % 262144 := by rw [Int.tmod_eq_emod_of_nonneg (by omega)]; omega
  have t2 : Int.tmod ((v + 4294967296) % 18446744073709551616) 262144 % 4294967296 = v % 262144 := by rw [Int.tmod_eq_emod_of_nonneg (by omega)]; omega
  simp only [t1, t2]
  repeat' (first | refine drop_ok ?_ | intro _ | with_reducible apply And.intro)
  all_goals first | omega | (simp_all; done)
  
theorem c_ref01_Low : SpecOk EB 105 S_ref01_Low := spec_sig ok_ref01_Low (n := 60) fun ⟨v, n, ⟨⟩⟩ h hok => a_ref01_Low v n (of_decide_eq_true h) (ok_int (okSL_head hok)) (ok_int (okSL_head (okSL_tail hok)))
end

/-! ref02_Encode -/

def S_ref02_Encode : Spec := sig [.instr] [.i .u32, .b] (fun (i, _) => K.encode i)
noncomputable def E_ref02_Encode : Env := EB.adds [(104, S_ref02_May), (64, S_ref02_Form), (105, S_ref01_Low)]

theorem ok_ref02_Encode : EnvOk E_ref02_Encode := okEB.adds (l := _) ⟨c_ref02_May, c_ref02_Form, c_ref01_Low, trivial⟩

theorem t_ref02_Encode (i : PInstr) : evF E_ref02_Encode 60 66 (encArgs [.instr] (i, ())) = 
  Tree.letv (okO [AT.b]) (K.may i) fun x0 =>
  (bif x0 then
    (Tree.letv (okO [(AT.i IntKind.u32)]) (i.imm % (262144 : Int)) fun x1 =>
    (Tree.letv (okO [(AT.i IntKind.i64)]) (K.form i.op) fun x2 =>
    (bif (BEq.beq x2 (1 : Int)) then
      (Tree.leaf (SV.tup [(SV.v (Value.int IntKind.u32 (IntKind.wrap IntKind.u32 (IntKind.wrap IntKind.u64 ((IntKind.wrap IntKind.u64 ((IntKind.wrap IntKind.u64 ((IntKind.wrap IntKind.u64 ((IntKind.wrap IntKind.u64 i.op) * (67108864 : Int))) + (IntKind.wrap IntKind.u64 ((IntKind.wrap IntKind.u64 i.rd) * (4194304 : Int))))) + (IntKind.wrap IntKind.u64 ((IntKind.wrap IntKind.u64 i.ra) * (262144 : Int))))) + (IntKind.wrap IntKind.u64 i.rb)))))), (SV.b true)]))
    else
      (Tree.leaf (SV.tup [(SV.v (Value.int IntKind.u32 (IntKind.wrap IntKind.u32 (IntKind.wrap IntKind.u64 ((IntKind.wrap IntKind.u64 ((IntKind.wrap IntKind.u64 ((IntKind.wrap IntKind.u64 ((IntKind.wrap IntKind.u64 i.op) * (67108864 : Int))) + (IntKind.wrap IntKind.u64 ((IntKind.wrap IntKind.u64 i.rd) * (4194304 : Int))))) + (IntKind.wrap IntKind.u64 ((IntKind.wrap IntKind.u64 i.ra) * (262144 : Int))))) + (IntKind.wrap IntKind.u64 x1)))))), (SV.b true)])))))
  else
    (Tree.leaf (SV.tup [(SV.v (Value.int IntKind.u32 (0 : Int))), (SV.b false)]))) := by kernel_rfl
section
attribute [local irreducible] evF evFL
theorem a_ref02_Encode (i : PInstr) (ok_i : okInstr i) : (evF E_ref02_Encode 60 66 (encArgs [.instr] (i, ()))).ends fun out_ => decO [.i .u32, .b] out_ = some (K.encode i) := by
  rw [t_ref02_Encode, Tree.ends_holds]
  simp only [Tree.holds_loop, Tree.holds_fork, Tree.holds_next, if_true, Tree.holds_cond, Tree.holds_letv, Tree.holds_leaf, Tree.holds_fail, decO, decA, decTup, decMach, decCore, decTrap, decInstr, decPart, decGuest, decConf, decEvent, decVcpu, decStep, bytesS, boolS, eventsS, intsS, guestsS, vcpusS, rowS, castL, Option.bind_some, Option.map_some, Option.some.injEq, Nat.beq_refl, beq_self_eq_true, Bool.and_self, cond_true, cond_false, eq_self, beq_iff_eq, beq_eq_false_iff_ne, bne_iff_ne, bne_eq_false_iff_eq, ne_eq, decide_eq_true_eq, decide_eq_false_iff_not, ble_true, ble_false, inRange_iff, inRange_false, wrap32, wrap64]
  unfold K.encode
  have key := fun h => K.may_of (i := i) h
  have pk := fun h => K.word_range (i := i) h
  unfold K.word at *
  repeat' (first | refine drop_ok ?_ | intro _ | with_reducible apply And.intro)
  all_goals first | (rename_i h; rw [if_neg (by simp [h])]; done) | skip
  all_goals
    have hm := key (by assumption)
    have hw := pk hm
    obtain ⟨⟨a, b⟩, ⟨c, d⟩, ⟨e, f⟩, ⟨g, j⟩, ⟨k, l⟩, one, two⟩ := hm
    rw [if_pos (by assumption)]
    simp only [Prod.mk.injEq, and_true]
    clear key pk one two
    by_cases h1 : K.form i.op = 1
    · first | contradiction | (simp only [if_pos h1] at hw ⊢; show @Eq Int _ _; omega)
    · first | contradiction | (simp only [if_neg h1] at hw ⊢; show @Eq Int _ _; omega)
  
theorem c_ref02_Encode : SpecOk EB 66 S_ref02_Encode := spec_sig ok_ref02_Encode (n := 60) fun ⟨i, ⟨⟩⟩ h hok => a_ref02_Encode i (ok_instr (okSL_head hok))
end

/-! ref02_Decode -/

def S_ref02_Decode : Spec := sig [.i .u32] [.instr, .b] (fun (w, _) => K.decode w)
noncomputable def E_ref02_Decode : Env := EB.adds [(64, S_ref02_Form), (65, S_ref01_Sign), (66, S_ref02_Encode)]

theorem ok_ref02_Decode : EnvOk E_ref02_Decode := okEB.adds (l := _) ⟨c_ref02_Form, c_ref01_Sign, c_ref02_Encode, trivial⟩

theorem t_ref02_Decode (w : Int) : evF E_ref02_Decode 60 30 (encArgs [.i .u32] (w, ())) = 
  Tree.letv (okO [(AT.i IntKind.i64)]) (K.form (IntKind.wrap IntKind.i64 (IntKind.wrap IntKind.u32 (Int.tdiv w (67108864 : Int))))) fun x0 =>
  (bif (BEq.beq x0 (1 : Int)) then
    (Tree.letv (okO [(AT.i IntKind.u32), AT.b]) (K.encode (PInstr.mk (IntKind.wrap IntKind.i64 (IntKind.wrap IntKind.u32 (Int.tdiv w (67108864 : Int)))) (IntKind.wrap IntKind.i64 (Int.tmod (IntKind.wrap IntKind.u32 (Int.tdiv w (4194304 : Int))) (16 : Int))) (IntKind.wrap IntKind.i64 (Int.tmod (IntKind.wrap IntKind.u32 (Int.tdiv w (262144 : Int))) (16 : Int))) (IntKind.wrap IntKind.i64 (Int.tmod w (16 : Int))) (0 : Int))) fun x1 =>
    (bif x1.snd then
      (bif (bne x1.fst w) then
        (Tree.leaf (SV.tup [(SV.agg [(SV.v (Value.int IntKind.i64 (0 : Int))), (SV.v (Value.int IntKind.i64 (0 : Int))), (SV.v (Value.int IntKind.i64 (0 : Int))), (SV.v (Value.int IntKind.i64 (0 : Int))), (SV.v (Value.int IntKind.i32 (0 : Int)))]), (SV.b false)]))
      else
        (Tree.leaf (SV.tup [(SV.agg [(SV.v (Value.int IntKind.i64 (IntKind.wrap IntKind.i64 (IntKind.wrap IntKind.u32 (Int.tdiv w (67108864 : Int)))))), (SV.v (Value.int IntKind.i64 (IntKind.wrap IntKind.i64 (Int.tmod (IntKind.wrap IntKind.u32 (Int.tdiv w (4194304 : Int))) (16 : Int))))), (SV.v (Value.int IntKind.i64 (IntKind.wrap IntKind.i64 (Int.tmod (IntKind.wrap IntKind.u32 (Int.tdiv w (262144 : Int))) (16 : Int))))), (SV.v (Value.int IntKind.i64 (IntKind.wrap IntKind.i64 (Int.tmod w (16 : Int))))), (SV.v (Value.int IntKind.i32 (0 : Int)))]), (SV.b true)])))
    else
      (Tree.leaf (SV.tup [(SV.agg [(SV.v (Value.int IntKind.i64 (0 : Int))), (SV.v (Value.int IntKind.i64 (0 : Int))), (SV.v (Value.int IntKind.i64 (0 : Int))), (SV.v (Value.int IntKind.i64 (0 : Int))), (SV.v (Value.int IntKind.i32 (0 : Int)))]), (SV.b false)]))))
  else
    (Tree.letv (okO [(AT.i IntKind.i32)]) (K.sext w) fun x1 =>
    (Tree.letv (okO [(AT.i IntKind.u32), AT.b]) (K.encode (PInstr.mk (IntKind.wrap IntKind.i64 (IntKind.wrap IntKind.u32 (Int.tdiv w (67108864 : Int)))) (IntKind.wrap IntKind.i64 (Int.tmod (IntKind.wrap IntKind.u32 (Int.tdiv w (4194304 : Int))) (16 : Int))) (IntKind.wrap IntKind.i64 (Int.tmod (IntKind.wrap IntKind.u32 (Int.tdiv w (262144 : Int))) (16 : Int))) (0 : Int) x1)) fun x2 =>
    (bif x2.snd then
      (bif (bne x2.fst w) then
        (Tree.leaf (SV.tup [(SV.agg [(SV.v (Value.int IntKind.i64 (0 : Int))), (SV.v (Value.int IntKind.i64 (0 : Int))), (SV.v (Value.int IntKind.i64 (0 : Int))), (SV.v (Value.int IntKind.i64 (0 : Int))), (SV.v (Value.int IntKind.i32 (0 : Int)))]), (SV.b false)]))
      else
        (Tree.leaf (SV.tup [(SV.agg [(SV.v (Value.int IntKind.i64 (IntKind.wrap IntKind.i64 (IntKind.wrap IntKind.u32 (Int.tdiv w (67108864 : Int)))))), (SV.v (Value.int IntKind.i64 (IntKind.wrap IntKind.i64 (Int.tmod (IntKind.wrap IntKind.u32 (Int.tdiv w (4194304 : Int))) (16 : Int))))), (SV.v (Value.int IntKind.i64 (IntKind.wrap IntKind.i64 (Int.tmod (IntKind.wrap IntKind.u32 (Int.tdiv w (262144 : Int))) (16 : Int))))), (SV.v (Value.int IntKind.i64 (0 : Int))), (SV.v (Value.int IntKind.i32 x1))]), (SV.b true)])))
    else
      (Tree.leaf (SV.tup [(SV.agg [(SV.v (Value.int IntKind.i64 (0 : Int))), (SV.v (Value.int IntKind.i64 (0 : Int))), (SV.v (Value.int IntKind.i64 (0 : Int))), (SV.v (Value.int IntKind.i64 (0 : Int))), (SV.v (Value.int IntKind.i32 (0 : Int)))]), (SV.b false)])))))) := by kernel_rfl
section
attribute [local irreducible] evF evFL
theorem a_ref02_Decode (w : Int) (ok_w : okI .u32 w) : (evF E_ref02_Decode 60 30 (encArgs [.i .u32] (w, ()))).ends fun out_ => decO [.instr, .b] out_ = some (K.decode w) := by
  rw [t_ref02_Decode, Tree.ends_holds]
  obtain ⟨w0, w1⟩ := okI_u32 ok_w
  have t1 : IntKind.u32.wrap (Int.tdiv w 67108864) = w / 67108864 := by rw [Int.tdiv_eq_ediv_of_nonneg w0, wrap32]; omega
  have t2 : Int.tmod (IntKind.u32.wrap (Int.tdiv w 4194304)) 16 = w / 4194304 % 16 := by rw [Int.tdiv_eq_ediv_of_nonneg w0, wrap32, Int.tmod_eq_emod_of_nonneg (by omega)]; omega
  have t3 : Int.tmod (IntKind.u32.wrap (Int.tdiv w 262144)) 16 = w / 262144 % 16 := by rw [Int.tdiv_eq_ediv_of_nonneg w0, wrap32, Int.tmod_eq_emod_of_nonneg (by omega)]; omega
  have t4 : Int.tmod w 16 = w % 16 := Int.tmod_eq_emod_of_nonneg w0
  have i1 : IntKind.i64.wrap (w / 67108864) = w / 67108864 := wrapI64 (by omega) (by omega)
  have i2 : IntKind.i64.wrap (w / 4194304 % 16) = w / 4194304 % 16 := wrapI64 (by omega) (by omega)
  have i3 : IntKind.i64.wrap (w / 262144 % 16) = w / 262144 % 16 := wrapI64 (by omega) (by omega)
  have i4 : IntKind.i64.wrap (w % 16) = w % 16 := wrapI64 (by omega) (by omega)
  have g1 : K.form (w / 67108864) = 1 → (⟨w / 67108864, w / 4194304 % 16, w / 262144 % 16, w % 16, 0⟩ : PInstr) = K.splitW w := fun h => by simp [K.splitW, h]
  have g2 : K.form (w / 67108864) ≠ 1 → (⟨w / 67108864, w / 4194304 % 16, w / 262144 % 16, 0, K.sext w⟩ : PInstr) = K.splitW w := fun h => by simp [K.splitW, h]
  have d1 : (K.encode (K.splitW w)).2 = true → (K.encode (K.splitW w)).1 = w → K.decode w = (K.splitW w, true) := fun h1 h2 => by
    unfold K.encode at h1 h2
    by_cases hm : K.may (K.splitW w) = true
    · rw [if_pos hm] at h2; unfold K.decode; rw [if_pos ⟨hm, h2⟩]
    · rw [if_neg hm] at h1; simp at h1
  have d2 : ¬ ((K.encode (K.splitW w)).2 = true ∧ (K.encode (K.splitW w)).1 = w) → K.decode w = (⟨0, 0, 0, 0, 0⟩, false) := fun h => by
    unfold K.encode at h
    unfold K.decode
    rw [if_neg]
    rintro ⟨h1, h2⟩
    rw [if_pos h1] at h; exact h ⟨rfl, h2⟩
  simp only [Tree.holds_loop, Tree.holds_fork, Tree.holds_next, if_true, Tree.holds_cond, Tree.holds_letv, Tree.holds_leaf, Tree.holds_fail, decO, decA, decTup, decMach, decCore, decTrap, decInstr, decPart, decGuest, decConf, decEvent, decVcpu, decStep, bytesS, boolS, eventsS, intsS, guestsS, vcpusS, rowS, castL, Option.bind_some, Option.map_some, Option.some.injEq, Nat.beq_refl, beq_self_eq_true, Bool.and_self, cond_true, cond_false, eq_self, beq_iff_eq, beq_eq_false_iff_ne, bne_iff_ne, bne_eq_false_iff_eq, ne_eq, decide_eq_true_eq, decide_eq_false_iff_not, ble_true, ble_false, inRange_iff, inRange_false, t1, t2, t3, t4, i1, i2, i3, i4]
  have fin : ∀ i, i = K.splitW w → (okO [AT.i IntKind.u32, AT.b] (K.encode i) → ((K.encode i).2 = true → (¬ (K.encode i).1 = w → ((⟨0, 0, 0, 0, 0⟩ : PInstr), false) = K.decode w) ∧ ((K.encode i).1 = w → (i, true) = K.decode w)) ∧ ((K.encode i).2 = false → ((⟨0, 0, 0, 0, 0⟩ : PInstr), false) = K.decode w)) := fun i hi _ => by
    subst hi
    exact ⟨fun a => ⟨fun b => (d2 fun c => b c.2).symm, fun b => (d1 a b).symm⟩, fun a => (d2 fun c => by rw [a] at c; exact absurd c.1 (by simp)).symm⟩
  clear d1 d2 t1 t2 t3 t4 i1 i2 i3 i4
  intro _
  by_cases hf : K.form (w / 67108864) = 1
  · simp only [hf]; simp; first | simpa using fin _ (g1 hf) | exact fun _ => by simpa using fin _ (g1 hf)
  · simp only [hf]; simp; first | simpa using fin _ (g2 hf) | exact fun _ => by simpa using fin _ (g2 hf)
  
theorem c_ref02_Decode : SpecOk EB 30 S_ref02_Decode := spec_sig ok_ref02_Decode (n := 60) fun ⟨w, ⟨⟩⟩ h hok => a_ref02_Decode w (ok_int (okSL_head hok))
end

/-! ref02_Privileged -/

def S_ref02_Privileged : Spec := sig [.i .i64] [.b] (fun (op, _) => K.privd op)
noncomputable def E_ref02_Privileged : Env := EB.adds []

theorem ok_ref02_Privileged : EnvOk E_ref02_Privileged := okEB.adds (l := _) trivial

theorem t_ref02_Privileged (op : Int) : evF E_ref02_Privileged 60 18 (encArgs [.i .i64] (op, ())) = 
  bif (BEq.beq op (21 : Int)) then
    (Tree.leaf (SV.b true))
  else
    (bif (BEq.beq op (22 : Int)) then
      (Tree.leaf (SV.b true))
    else
      (bif (BEq.beq op (23 : Int)) then
        (Tree.leaf (SV.b true))
      else
        (bif (BEq.beq op (24 : Int)) then
          (Tree.leaf (SV.b true))
        else
          (bif (BEq.beq op (25 : Int)) then
            (Tree.leaf (SV.b true))
          else
            (Tree.leaf (SV.b false)))))) := by kernel_rfl
section
attribute [local irreducible] evF evFL
theorem a_ref02_Privileged (op : Int) (ok_op : okI .i64 op) : (evF E_ref02_Privileged 60 18 (encArgs [.i .i64] (op, ()))).ends fun out_ => decO [.b] out_ = some (K.privd op) := by
  rw [t_ref02_Privileged, Tree.ends_holds]
  simp only [Tree.holds_loop, Tree.holds_fork, Tree.holds_next, if_true, Tree.holds_cond, Tree.holds_letv, Tree.holds_leaf, Tree.holds_fail, decO, decA, decTup, decMach, decCore, decTrap, decInstr, decPart, decGuest, decConf, decEvent, decVcpu, decStep, bytesS, boolS, eventsS, intsS, guestsS, vcpusS, rowS, castL, Option.bind_some, Option.map_some, Option.some.injEq, Nat.beq_refl, beq_self_eq_true, Bool.and_self, cond_true, cond_false, eq_self, beq_iff_eq, beq_eq_false_iff_ne, bne_iff_ne, bne_eq_false_iff_eq, ne_eq, decide_eq_true_eq, decide_eq_false_iff_not, ble_true, ble_false, inRange_iff, inRange_false, K.privd]
  repeat' (first | refine drop_ok ?_ | intro _ | with_reducible apply And.intro)
  all_goals first | (subst_vars; rfl) | (have : ¬ (21 ≤ op ∧ op ≤ 25) := by omega
                                         by_cases h : 21 ≤ op <;> simp <;> omega)
  
theorem c_ref02_Privileged : SpecOk EB 18 S_ref02_Privileged := spec_sig ok_ref02_Privileged (n := 60) fun ⟨op, ⟨⟩⟩ h hok => a_ref02_Privileged op (ok_int (okSL_head hok))
end

/-! ref13_Now -/

def S_ref13_Now : Spec := sig [.mach] [.instr, .trap] (fun (m, _) => K.cur m)
noncomputable def E_ref13_Now : Env := EB.adds [(29, S_ref10_Load), (30, S_ref02_Decode), (18, S_ref02_Privileged), (15, S_ref06_Super)]

theorem ok_ref13_Now : EnvOk E_ref13_Now := okEB.adds (l := _) ⟨c_ref10_Load, c_ref02_Decode, c_ref02_Privileged, c_ref06_Super, trivial⟩

theorem t_ref13_Now (m : PMach) : evF E_ref13_Now 60 17 (encArgs [.mach] (m, ())) = 
  Tree.letv (okO [(AT.i IntKind.u32), AT.trap]) (K.load m m.core.pc (4 : Int)) fun x0 =>
  (bif (bne x0.snd.cause (0 : Int)) then
    (Tree.leaf (SV.tup [(SV.agg [(SV.v (Value.int IntKind.i64 (0 : Int))), (SV.v (Value.int IntKind.i64 (0 : Int))), (SV.v (Value.int IntKind.i64 (0 : Int))), (SV.v (Value.int IntKind.i64 (0 : Int))), (SV.v (Value.int IntKind.i32 (0 : Int)))]), (SV.agg [(SV.v (Value.int IntKind.i64 x0.snd.cause)), (SV.v (Value.int IntKind.u32 x0.snd.tval))])]))
  else
    (Tree.letv (okO [AT.instr, AT.b]) (K.decode x0.fst) fun x1 =>
    (bif x1.snd then
      (Tree.letv (okO [AT.b]) (K.privd x1.fst.op) fun x2 =>
      (bif x2 then
        (Tree.letv (okO [AT.b]) (K.super m.core) fun x3 =>
        (bif x3 then
          (Tree.leaf (SV.tup [(SV.agg [(SV.v (Value.int IntKind.i64 x1.fst.op)), (SV.v (Value.int IntKind.i64 x1.fst.rd)), (SV.v (Value.int IntKind.i64 x1.fst.ra)), (SV.v (Value.int IntKind.i64 x1.fst.rb)), (SV.v (Value.int IntKind.i32 x1.fst.imm))]), (SV.agg [(SV.v (Value.int IntKind.i64 x0.snd.cause)), (SV.v (Value.int IntKind.u32 x0.snd.tval))])]))
        else
          (Tree.leaf (SV.tup [(SV.agg [(SV.v (Value.int IntKind.i64 (0 : Int))), (SV.v (Value.int IntKind.i64 (0 : Int))), (SV.v (Value.int IntKind.i64 (0 : Int))), (SV.v (Value.int IntKind.i64 (0 : Int))), (SV.v (Value.int IntKind.i32 (0 : Int)))]), (SV.agg [(SV.v (Value.int IntKind.i64 (2 : Int))), (SV.v (Value.int IntKind.u32 x0.fst))])]))))
      else
        (Tree.leaf (SV.tup [(SV.agg [(SV.v (Value.int IntKind.i64 x1.fst.op)), (SV.v (Value.int IntKind.i64 x1.fst.rd)), (SV.v (Value.int IntKind.i64 x1.fst.ra)), (SV.v (Value.int IntKind.i64 x1.fst.rb)), (SV.v (Value.int IntKind.i32 x1.fst.imm))]), (SV.agg [(SV.v (Value.int IntKind.i64 x0.snd.cause)), (SV.v (Value.int IntKind.u32 x0.snd.tval))])]))))
    else
      (Tree.leaf (SV.tup [(SV.agg [(SV.v (Value.int IntKind.i64 x1.fst.op)), (SV.v (Value.int IntKind.i64 x1.fst.rd)), (SV.v (Value.int IntKind.i64 x1.fst.ra)), (SV.v (Value.int IntKind.i64 x1.fst.rb)), (SV.v (Value.int IntKind.i32 x1.fst.imm))]), (SV.agg [(SV.v (Value.int IntKind.i64 (1 : Int))), (SV.v (Value.int IntKind.u32 x0.fst))])]))))) := by kernel_rfl
section
attribute [local irreducible] evF evFL
theorem a_ref13_Now (m : PMach) (ok_m : okMach m) : (evF E_ref13_Now 60 17 (encArgs [.mach] (m, ()))).ends fun out_ => decO [.instr, .trap] out_ = some (K.cur m) := by
  rw [t_ref13_Now, Tree.ends_holds]
  have lz := fun a n => load_zero (m := m) (a := a) (n := n)
  have dz := fun w => decode_none (w := w)
  simp only [Tree.holds_loop, Tree.holds_fork, Tree.holds_next, if_true, Tree.holds_cond, Tree.holds_letv, Tree.holds_leaf, Tree.holds_fail, decO, decA, decTup, decMach, decCore, decTrap, decInstr, decPart, decGuest, decConf, decEvent, decVcpu, decStep, bytesS, boolS, eventsS, intsS, guestsS, vcpusS, rowS, castL, Option.bind_some, Option.map_some, Option.some.injEq, Nat.beq_refl, beq_self_eq_true, Bool.and_self, cond_true, cond_false, eq_self, beq_iff_eq, beq_eq_false_iff_ne, bne_iff_ne, bne_eq_false_iff_eq, ne_eq, decide_eq_true_eq, decide_eq_false_iff_not, ble_true, ble_false, inRange_iff, inRange_false]
  unfold K.cur
  repeat' (first | refine drop_ok ?_ | intro _ | with_reducible apply And.intro)
  all_goals first | omega | (simp_all; done) | (rw [dz _ (by assumption)]; simp_all; done) | trace_state
  
theorem c_ref13_Now : SpecOk EB 17 S_ref13_Now := spec_sig ok_ref13_Now (n := 60) fun ⟨m, ⟨⟩⟩ h hok => a_ref13_Now m (ok_mach (okSL_head hok))
end

/-! ref07_Get -/

def S_ref07_Get : Spec := sig [.a .u32 16, .i .i64] [.i .u32] (fun (r, i, _) => K.get r i)
noncomputable def E_ref07_Get : Env := EB.adds []

theorem ok_ref07_Get : EnvOk E_ref07_Get := okEB.adds (l := _) trivial

theorem t_ref07_Get (r : List Int) (i : Int) : evF E_ref07_Get 60 31 (encArgs [.a .u32 16, .i .i64] (r, i, ())) = 
  bif (BEq.beq (1 : Int) i) then
    (Tree.leaf (SV.v (Value.int IntKind.u32 (List.getD r 1 (0 : Int)))))
  else
    (bif (BEq.beq (2 : Int) i) then
      (Tree.leaf (SV.v (Value.int IntKind.u32 (List.getD r 2 (0 : Int)))))
    else
      (bif (BEq.beq (3 : Int) i) then
        (Tree.leaf (SV.v (Value.int IntKind.u32 (List.getD r 3 (0 : Int)))))
      else
        (bif (BEq.beq (4 : Int) i) then
          (Tree.leaf (SV.v (Value.int IntKind.u32 (List.getD r 4 (0 : Int)))))
        else
          (bif (BEq.beq (5 : Int) i) then
            (Tree.leaf (SV.v (Value.int IntKind.u32 (List.getD r 5 (0 : Int)))))
          else
            (bif (BEq.beq (6 : Int) i) then
              (Tree.leaf (SV.v (Value.int IntKind.u32 (List.getD r 6 (0 : Int)))))
            else
              (bif (BEq.beq (7 : Int) i) then
                (Tree.leaf (SV.v (Value.int IntKind.u32 (List.getD r 7 (0 : Int)))))
              else
                (bif (BEq.beq (8 : Int) i) then
                  (Tree.leaf (SV.v (Value.int IntKind.u32 (List.getD r 8 (0 : Int)))))
                else
                  (bif (BEq.beq (9 : Int) i) then
                    (Tree.leaf (SV.v (Value.int IntKind.u32 (List.getD r 9 (0 : Int)))))
                  else
                    (bif (BEq.beq (10 : Int) i) then
                      (Tree.leaf (SV.v (Value.int IntKind.u32 (List.getD r 10 (0 : Int)))))
                    else
                      (bif (BEq.beq (11 : Int) i) then
                        (Tree.leaf (SV.v (Value.int IntKind.u32 (List.getD r 11 (0 : Int)))))
                      else
                        (bif (BEq.beq (12 : Int) i) then
                          (Tree.leaf (SV.v (Value.int IntKind.u32 (List.getD r 12 (0 : Int)))))
                        else
                          (bif (BEq.beq (13 : Int) i) then
                            (Tree.leaf (SV.v (Value.int IntKind.u32 (List.getD r 13 (0 : Int)))))
                          else
                            (bif (BEq.beq (14 : Int) i) then
                              (Tree.leaf (SV.v (Value.int IntKind.u32 (List.getD r 14 (0 : Int)))))
                            else
                              (bif (BEq.beq (15 : Int) i) then
                                (Tree.leaf (SV.v (Value.int IntKind.u32 (List.getD r 15 (0 : Int)))))
                              else
                                (Tree.leaf (SV.v (Value.int IntKind.u32 (0 : Int)))))))))))))))))) := by kernel_rfl
section
attribute [local irreducible] evF evFL
theorem a_ref07_Get (r : List Int) (i : Int) (ok_r : okL .u32 16 r) (ok_i : okI .i64 i) : (evF E_ref07_Get 60 31 (encArgs [.a .u32 16, .i .i64] (r, i, ()))).ends fun out_ => decO [.i .u32] out_ = some (K.get r i) := by
  rw [t_ref07_Get, Tree.ends_holds]
  simp only [Tree.holds_loop, Tree.holds_fork, Tree.holds_next, if_true, Tree.holds_cond, Tree.holds_letv, Tree.holds_leaf, Tree.holds_fail, decO, decA, decTup, decMach, decCore, decTrap, decInstr, decPart, decGuest, decConf, decEvent, decVcpu, decStep, bytesS, boolS, eventsS, intsS, guestsS, vcpusS, rowS, castL, Option.bind_some, Option.map_some, Option.some.injEq, Nat.beq_refl, beq_self_eq_true, Bool.and_self, cond_true, cond_false, eq_self, K.get]
  by_cases h : 0 < i ∧ i < 16
  · rw [if_pos h]
    have : i = 1 ∨ i = 2 ∨ i = 3 ∨ i = 4 ∨ i = 5 ∨ i = 6 ∨ i = 7 ∨ i = 8 ∨ i = 9 ∨ i = 10 ∨ i = 11 ∨ i = 12 ∨ i = 13 ∨ i = 14 ∨ i = 15 := by omega
    rcases this with rfl | rfl | rfl | rfl | rfl | rfl | rfl | rfl | rfl | rfl | rfl | rfl | rfl | rfl | rfl <;> simp
  · rw [if_neg h]
    have n : ∀ k : Int, 0 < k → k < 16 → (k == i) = false := fun k h0 h1 => by
      have : ¬ k = i := by omega
      simpa using this
    simp [n]
  
theorem c_ref07_Get : SpecOk EB 31 S_ref07_Get := spec_sig ok_ref07_Get (n := 60) fun ⟨r, i, ⟨⟩⟩ h hok => a_ref07_Get r i (ok_arr (okSL_head hok)) (ok_int (okSL_head (okSL_tail hok)))
end

/-! ref07_Put -/
def K.putN (r : List Int) (i v : Int) (j : Nat) : List Int := (K.put r i v).take j ++ List.replicate (16 - j) 0
theorem K.putN_step {r : List Int} {i v : Int} (hr : r.length = 16) {j : Nat} (hj : j < 16) {z : Int} (hz : z = (K.put r i v).getD j 0) : (K.putN r i v j).set j z = K.putN r i v (j + 1) := by
  have hl : (K.put r i v).length = 16 := by unfold K.put; split <;> simp [hr]
  unfold K.putN
  rw [List.set_append_right _ _ (by simp; omega), List.take_succ_eq_append_getElem (by omega), List.append_assoc]
  congr 1
  rw [show j - (List.take j (K.put r i v)).length = 0 by simp; omega, show 16 - j = (16 - (j + 1)) + 1 by omega, List.replicate_succ]
  simp [hz, hl, hj]
@[reducible] def L_ref07_Put (r : List Int) (i v : Int) : LoopSpec where
  σ := Nat
  slots := [1, 2, 3, 6, 7, 8]
  keys := [3, 6, 7]
  vals := fun j => [.v (.int .i64 i), .v (.int .u32 v), .loc 0 0 0 1, .loc 1 0 0 1, .loc 2 0 0 1, .v (.int .i64 (j : Int))]
  blks := fun j => [.cells [.arr .u32 16 r] 23, .cells [.arr .u32 16 [0, 0, 0, 0, 0, 0, 0, 0, 0, 0, 0, 0, 0, 0, 0, 0]] 23, .cells [.arr .u32 16 (K.putN r i v j)] 23]
  inv := fun j => j ≤ 16
  mu := fun j => 16 - j
def S_ref07_Put : Spec := sig [.a .u32 16, .i .i64, .i .u32] [.a .u32 16] (fun (r, i, v, _) => K.put r i v)
noncomputable def E_ref07_Put : Env := EB.adds []

theorem ok_ref07_Put : EnvOk E_ref07_Put := okEB.adds (l := _) trivial

theorem t_ref07_Put (r : List Int) (i : Int) (v : Int) : evFL E_ref07_Put (fun _ => some (L_ref07_Put r i v)) 60 33 (encArgs [.a .u32 16, .i .i64, .i .u32] (r, i, v, ())) = 
  Tree.loop 0 (L_ref07_Put r i v) [(SV.v (Value.int IntKind.i64 i)), (SV.v (Value.int IntKind.u32 v)), (SV.loc 0 0 0 1), (SV.loc 1 0 0 1), (SV.loc 2 0 0 1), (SV.v (Value.int IntKind.i64 (0 : Int)))] [(Blk.cells [(SV.arr IntKind.u32 16 r)] 23), (Blk.cells [(SV.arr IntKind.u32 16 [(0 : Int), (0 : Int), (0 : Int), (0 : Int), (0 : Int), (0 : Int), (0 : Int), (0 : Int), (0 : Int), (0 : Int), (0 : Int), (0 : Int), (0 : Int), (0 : Int), (0 : Int), (0 : Int)])] 23), (Blk.cells [(SV.arr IntKind.u32 16 [(0 : Int), (0 : Int), (0 : Int), (0 : Int), (0 : Int), (0 : Int), (0 : Int), (0 : Int), (0 : Int), (0 : Int), (0 : Int), (0 : Int), (0 : Int), (0 : Int), (0 : Int), (0 : Int)])] 23)] fun (x0 : Nat) =>
  (bif (decide ((Int.ofNat x0) < (16 : Int))) then
    (bif (inRange (Int.ofNat x0) 16) then
      (bif (inRange (Int.ofNat x0) 16) then
        (bif (BEq.beq (Int.ofNat x0) i) then
          (bif (bne (Int.ofNat x0) (0 : Int)) then
            (bif (inRange (Int.ofNat x0) 16) then
              ((Tree.next 0 [(SV.v (Value.int IntKind.i64 i)), (SV.v (Value.int IntKind.u32 v)), (SV.loc 0 0 0 1), (SV.loc 1 0 0 1), (SV.loc 2 0 0 1), (SV.v (Value.int IntKind.i64 (IntKind.wrap IntKind.i64 ((Int.ofNat x0) + (1 : Int)))))] [(Blk.cells [(SV.arr IntKind.u32 16 r)] 23), (Blk.cells [(SV.arr IntKind.u32 16 [(0 : Int), (0 : Int), (0 : Int), (0 : Int), (0 : Int), (0 : Int), (0 : Int), (0 : Int), (0 : Int), (0 : Int), (0 : Int), (0 : Int), (0 : Int), (0 : Int), (0 : Int), (0 : Int)])] 23), (Blk.cells [(SV.arr IntKind.u32 16 (List.set (List.set (K.putN r i v x0) ((Int.toNat (Int.ofNat x0))) (List.getD r ((Int.toNat (Int.ofNat x0))) (0 : Int))) ((Int.toNat (Int.ofNat x0))) v))] 23)]))
            else
              (Tree.fail))
          else
            ((Tree.next 0 [(SV.v (Value.int IntKind.i64 i)), (SV.v (Value.int IntKind.u32 v)), (SV.loc 0 0 0 1), (SV.loc 1 0 0 1), (SV.loc 2 0 0 1), (SV.v (Value.int IntKind.i64 (IntKind.wrap IntKind.i64 ((Int.ofNat x0) + (1 : Int)))))] [(Blk.cells [(SV.arr IntKind.u32 16 r)] 23), (Blk.cells [(SV.arr IntKind.u32 16 [(0 : Int), (0 : Int), (0 : Int), (0 : Int), (0 : Int), (0 : Int), (0 : Int), (0 : Int), (0 : Int), (0 : Int), (0 : Int), (0 : Int), (0 : Int), (0 : Int), (0 : Int), (0 : Int)])] 23), (Blk.cells [(SV.arr IntKind.u32 16 (List.set (K.putN r i v x0) ((Int.toNat (Int.ofNat x0))) (List.getD r ((Int.toNat (Int.ofNat x0))) (0 : Int))))] 23)])))
        else
          ((Tree.next 0 [(SV.v (Value.int IntKind.i64 i)), (SV.v (Value.int IntKind.u32 v)), (SV.loc 0 0 0 1), (SV.loc 1 0 0 1), (SV.loc 2 0 0 1), (SV.v (Value.int IntKind.i64 (IntKind.wrap IntKind.i64 ((Int.ofNat x0) + (1 : Int)))))] [(Blk.cells [(SV.arr IntKind.u32 16 r)] 23), (Blk.cells [(SV.arr IntKind.u32 16 [(0 : Int), (0 : Int), (0 : Int), (0 : Int), (0 : Int), (0 : Int), (0 : Int), (0 : Int), (0 : Int), (0 : Int), (0 : Int), (0 : Int), (0 : Int), (0 : Int), (0 : Int), (0 : Int)])] 23), (Blk.cells [(SV.arr IntKind.u32 16 (List.set (K.putN r i v x0) ((Int.toNat (Int.ofNat x0))) (List.getD r ((Int.toNat (Int.ofNat x0))) (0 : Int))))] 23)])))
      else
        (Tree.fail))
    else
      (Tree.fail))
  else
    (Tree.leaf (SV.agg [(SV.arr IntKind.u32 16 (K.putN r i v x0))]))) := by kernel_rfl
section
attribute [local irreducible] evF evFL
theorem a_ref07_Put (r : List Int) (i : Int) (v : Int) (ok_r : okL .u32 16 r) (ok_i : okI .i64 i) (ok_v : okI .u32 v) : (evFL E_ref07_Put (fun _ => some (L_ref07_Put r i v)) 60 33 (encArgs [.a .u32 16, .i .i64, .i .u32] (r, i, v, ()))).ends fun out_ => decO [.a .u32 16] out_ = some (K.put r i v) := by
  rw [t_ref07_Put, Tree.ends_holds]
  have hr := ok_r.1
  simp only [Tree.holds_loop]
  refine ⟨⟨(0 : Nat), rfl, rfl, Nat.zero_le _, trivial⟩, fun (j : Nat) (hj : j ≤ 16) => ?_⟩
  simp only [Tree.holds_loop, Tree.holds_fork, Tree.holds_next, if_true, Tree.holds_cond, Tree.holds_letv, Tree.holds_leaf, Tree.holds_fail, decO, decA, decTup, decMach, decCore, decTrap, decInstr, decPart, decGuest, decConf, decEvent, decVcpu, decStep, bytesS, boolS, eventsS, intsS, guestsS, vcpusS, rowS, castL, Option.bind_some, Option.map_some, Option.some.injEq, Nat.beq_refl, beq_self_eq_true, Bool.and_self, cond_true, cond_false, eq_self]
  refine ⟨fun h => ?_, fun h => ?_⟩
  · have hlt : j < 16 := by simp at h; omega
    have r1 : inRange (j : Int) 16 = true := inRange_iff.2 ⟨by omega, by omega⟩
    have e2 : IntKind.i64.wrap ((j : Int) + 1) = ((j + 1 : Nat) : Int) := by rw [wrapI64 (by omega) (by omega)]; rfl
    simp only [Int.ofNat_eq_natCast, Int.toNat_natCast, r1, true_implies, Bool.true_eq_false, false_implies, and_true, e2]
    have s1 : (j : Int) = i → j ≠ 0 → ((K.putN r i v j).set j (r.getD j 0)).set j v = K.putN r i v (j + 1) := fun q1 q2 => by
      rw [List.set_set, K.putN_step hr hlt]
      unfold K.put; rw [if_pos (by omega)]; subst q1; simp [hr, hlt]
    have s2 : ((j : Int) ≠ i ∨ j = 0) → (K.putN r i v j).set j (r.getD j 0) = K.putN r i v (j + 1) := fun q => by
      rw [K.putN_step hr hlt]
      unfold K.put; split
      · rw [List.getD_eq_getElem?_getD, List.getD_eq_getElem?_getD, List.getElem?_set_ne (by omega)]
      · rfl
    have fin : ∀ x, x = K.putN r i v (j + 1) → (L_ref07_Put r i v).at (fun y => (L_ref07_Put r i v).mu y < (L_ref07_Put r i v).mu j) [.v (.int .i64 i), .v (.int .u32 v), .loc 0 0 0 1, .loc 1 0 0 1, .loc 2 0 0 1, .v (.int .i64 ((j + 1 : Nat) : Int))] [.cells [.arr .u32 16 r] 23, .cells [.arr .u32 16 [0, 0, 0, 0, 0, 0, 0, 0, 0, 0, 0, 0, 0, 0, 0, 0]] 23, .cells [.arr .u32 16 x] 23] := fun x hx =>
      ⟨j + 1, rfl, by rw [hx], by show j + 1 ≤ 16; omega, by show 16 - (j + 1) < 16 - j; omega⟩
    refine ⟨fun q1 => ⟨fun q2 => ?_, fun q2 => ?_⟩, fun q1 => ?_⟩
    · exact fin _ (s1 (by simpa using q1) (by simpa using q2))
    · exact fin _ (s2 (.inr (by simpa using q2)))
    · exact fin _ (s2 (.inl (by simpa using q1)))
  · have : j = 16 := by simp at h; omega
    subst this
    have hl : (K.put r i v).length = 16 := by unfold K.put; split <;> simp [hr]
    show _ = K.put r i v
    unfold K.putN
    rw [List.take_of_length_le (by omega)]; simp
  
theorem c_ref07_Put : SpecOk EB 33 S_ref07_Put := spec_sigL ok_ref07_Put (n := 60) (fun (r, i, v, _) => fun _ => some (L_ref07_Put r i v)) fun ⟨r, i, v, ⟨⟩⟩ h hok => a_ref07_Put r i v (ok_arr (okSL_head hok)) (ok_int (okSL_head (okSL_tail hok))) (ok_int (okSL_head (okSL_tail (okSL_tail hok))))
end

/-! ref01_Put -/
def K.putTo (w at_ n v : Int) (j : Nat) : Int := ((K.bput w at_ n v).toNat % 2 ^ j : Nat)
@[reducible] def L_ref01_Put (w at_ n v : Int) : LoopSpec where
  σ := Nat
  slots := [0, 1, 2, 3, 9, 10]
  keys := []
  vals := fun j => [.v (.int .u32 w), .v (.int .i64 at_), .v (.int .i64 n), .v (.int .u32 v), .v (.int .u64 (K.putTo w at_ n v j)), .v (.int .i64 (j : Int))]
  blks := fun _ => []
  inv := fun j => j ≤ 32
  mu := fun j => 32 - j
def S_ref01_Put : Spec := sig [.i .u32, .i .i64, .i .i64, .i .u32] [.i .u32] (fun (w, at_, n, v, _) => K.bput w at_ n v) (pre := fun (w, at_, n, v, _) => decide (0 ≤ at_ ∧ 0 ≤ n ∧ at_ + n ≤ 32))
noncomputable def E_ref01_Put : Env := EB.adds [(70, S_ref01_Pow), (41, S_ref01_Field)]

theorem ok_ref01_Put : EnvOk E_ref01_Put := okEB.adds (l := _) ⟨c_ref01_Pow, c_ref01_Field, trivial⟩

theorem t_ref01_Put (w : Int) (at_ : Int) (n : Int) (v : Int) : evFL E_ref01_Put (fun _ => some (L_ref01_Put w at_ n v)) 60 42 (encArgs [.i .u32, .i .i64, .i .i64, .i .u32] (w, at_, n, v, ())) = 
  Tree.loop 0 (L_ref01_Put w at_ n v) [(SV.v (Value.int IntKind.u32 w)), (SV.v (Value.int IntKind.i64 at_)), (SV.v (Value.int IntKind.i64 n)), (SV.v (Value.int IntKind.u32 v)), (SV.v (Value.int IntKind.u64 (0 : Int))), (SV.v (Value.int IntKind.i64 (0 : Int)))] [] fun (x0 : Nat) =>
  (bif (decide ((Int.ofNat x0) < (32 : Int))) then
    (bif (decide (And ((Int.ofNat x0) ≤ (63 : Int)) ((1 : Int) ≤ (63 : Int)))) then
      (Tree.letv (okO [(AT.i IntKind.u32)]) (K.field w (Int.ofNat x0) (1 : Int)) fun x1 =>
      (bif (decide ((Int.ofNat x0) ≥ at_)) then
        (bif (decide ((Int.ofNat x0) < (IntKind.wrap IntKind.i64 (at_ + n)))) then
          (bif (decide (And ((IntKind.wrap IntKind.i64 ((Int.ofNat x0) - at_)) ≤ (63 : Int)) ((1 : Int) ≤ (63 : Int)))) then
            (Tree.letv (okO [(AT.i IntKind.u32)]) (K.field v (IntKind.wrap IntKind.i64 ((Int.ofNat x0) - at_)) (1 : Int)) fun x2 =>
            (bif (decide ((Int.ofNat x0) ≤ (63 : Int))) then
              (Tree.letv (okO [(AT.i IntKind.u64)]) (K.pow (Int.ofNat x0)) fun x3 =>
              ((Tree.next 0 [(SV.v (Value.int IntKind.u32 w)), (SV.v (Value.int IntKind.i64 at_)), (SV.v (Value.int IntKind.i64 n)), (SV.v (Value.int IntKind.u32 v)), (SV.v (Value.int IntKind.u64 (IntKind.wrap IntKind.u64 ((K.putTo w at_ n v x0) + (IntKind.wrap IntKind.u64 ((IntKind.wrap IntKind.u64 x2) * x3)))))), (SV.v (Value.int IntKind.i64 (IntKind.wrap IntKind.i64 ((Int.ofNat x0) + (1 : Int)))))] [])))
            else
              (Tree.fail)))
          else
            (Tree.fail))
        else
          (bif (decide ((Int.ofNat x0) ≤ (63 : Int))) then
            (Tree.letv (okO [(AT.i IntKind.u64)]) (K.pow (Int.ofNat x0)) fun x2 =>
            ((Tree.next 0 [(SV.v (Value.int IntKind.u32 w)), (SV.v (Value.int IntKind.i64 at_)), (SV.v (Value.int IntKind.i64 n)), (SV.v (Value.int IntKind.u32 v)), (SV.v (Value.int IntKind.u64 (IntKind.wrap IntKind.u64 ((K.putTo w at_ n v x0) + (IntKind.wrap IntKind.u64 ((IntKind.wrap IntKind.u64 x1) * x2)))))), (SV.v (Value.int IntKind.i64 (IntKind.wrap IntKind.i64 ((Int.ofNat x0) + (1 : Int)))))] [])))
          else
            (Tree.fail)))
      else
        (bif (decide ((Int.ofNat x0) ≤ (63 : Int))) then
          (Tree.letv (okO [(AT.i IntKind.u64)]) (K.pow (Int.ofNat x0)) fun x2 =>
          ((Tree.next 0 [(SV.v (Value.int IntKind.u32 w)), (SV.v (Value.int IntKind.i64 at_)), (SV.v (Value.int IntKind.i64 n)), (SV.v (Value.int IntKind.u32 v)), (SV.v (Value.int IntKind.u64 (IntKind.wrap IntKind.u64 ((K.putTo w at_ n v x0) + (IntKind.wrap IntKind.u64 ((IntKind.wrap IntKind.u64 x1) * x2)))))), (SV.v (Value.int IntKind.i64 (IntKind.wrap IntKind.i64 ((Int.ofNat x0) + (1 : Int)))))] [])))
        else
          (Tree.fail))))
    else
      (Tree.fail))
  else
    (Tree.leaf (SV.v (Value.int IntKind.u32 (IntKind.wrap IntKind.u32 (K.putTo w at_ n v x0)))))) := by kernel_rfl
section
attribute [local irreducible] evF evFL
theorem a_ref01_Put (w : Int) (at_ : Int) (n : Int) (v : Int) (hpre : 0 ≤ at_ ∧ 0 ≤ n ∧ at_ + n ≤ 32) (ok_w : okI .u32 w) (ok_at_ : okI .i64 at_) (ok_n : okI .i64 n) (ok_v : okI .u32 v) : (evFL E_ref01_Put (fun _ => some (L_ref01_Put w at_ n v)) 60 42 (encArgs [.i .u32, .i .i64, .i .i64, .i .u32] (w, at_, n, v, ()))).ends fun out_ => decO [.i .u32] out_ = some (K.bput w at_ n v) := by
  rw [t_ref01_Put, Tree.ends_holds]
  obtain ⟨w0, w1⟩ := okI_u32 ok_w
  obtain ⟨v0, v1⟩ := okI_u32 ok_v
  obtain ⟨w, rfl⟩ := Int.eq_ofNat_of_zero_le w0
  obtain ⟨v, rfl⟩ := Int.eq_ofNat_of_zero_le v0
  obtain ⟨a, rfl⟩ := Int.eq_ofNat_of_zero_le hpre.1
  obtain ⟨n, rfl⟩ := Int.eq_ofNat_of_zero_le hpre.2.1
  have hT := bput_lt (w := w) (a := a) (n := n) (v := v) (by omega) (by omega)
  have hbit := fun j => bput_bit (w := w) (a := a) (n := n) (v := v) (j := j)
  have hK : (K.bput (w : Int) (a : Int) (n : Int) (v : Int)).toNat = 2 ^ a * (2 ^ n * (w / 2 ^ (a + n)) + v % 2 ^ n) + w % 2 ^ a := by unfold K.bput; rw [Int.toNat_natCast]; simp only [Int.toNat_natCast]
  simp only [Tree.holds_loop]
  refine ⟨⟨(0 : Nat), by simp [K.putTo, Nat.mod_one], rfl, Nat.zero_le _, trivial⟩, fun (j : Nat) (hj : j ≤ 32) => ?_⟩
  generalize 2 ^ a * (2 ^ n * (w / 2 ^ (a + n)) + v % 2 ^ n) + w % 2 ^ a = T at hT hbit hK
  simp only [Tree.holds_loop, Tree.holds_fork, Tree.holds_next, if_true, Tree.holds_cond, Tree.holds_letv, Tree.holds_leaf, Tree.holds_fail]
  have c63 : decide (Int.ofNat j ≤ 63 ∧ (1 : Int) ≤ 63) = true := by simp; omega
  have f1 : ∀ x i : Nat, x < 4294967296 → i < 32 → IntKind.u64.wrap (K.field (x : Int) (i : Int) 1) * K.pow (j : Int) = (((x.testBit i).toNat * 2 ^ j : Nat) : Int) := fun x i hx hi => by
    have : K.field (x : Int) (i : Int) 1 = ((x.testBit i).toNat : Int) := by
      unfold K.field K.pow
      rw [← div_bit_aux]
      simp
    rw [this, wrap64]
    have := Bool.toNat_le (x.testBit i)
    unfold K.pow
    rw [Int.natCast_mul, Int.emod_eq_of_lt (by omega) (by omega)]; simp
  refine ⟨fun h => ?_, fun h => ?_⟩
  · have hlt : j < 32 := by simp at h; omega
    have h2 := pow_le32 (i := j) (by omega)
    have e2 : IntKind.i64.wrap ((j : Int) + 1) = ((j + 1 : Nat) : Int) := by rw [wrapI64 (by omega) (by omega)]; rfl
    have e3 : IntKind.i64.wrap ((a : Int) + (n : Int)) = ((a + n : Nat) : Int) := by rw [wrapI64 (by omega) (by omega)]; rfl
    have key : ∀ x i : Nat, x < 4294967296 → i < 32 → x.testBit i = T.testBit j → IntKind.u64.wrap (K.putTo w a n v j + IntKind.u64.wrap (IntKind.u64.wrap (K.field (x : Int) (i : Int) 1) * K.pow (j : Int))) = K.putTo w a n v (j + 1) := fun x i hx hi hb => by
      rw [f1 x i hx hi, hb]
      unfold K.putTo
      rw [hK, wrap64, wrap64, bit_more_aux]
      have h3 : T % 2 ^ j < 2 ^ j := Nat.mod_lt _ (Nat.two_pow_pos j)
      have h4 := Bool.toNat_le (T.testBit j)
      have h5 : (T.testBit j).toNat * 2 ^ j ≤ 2 ^ j := by
        rcases Nat.le_one_iff_eq_zero_or_eq_one.1 h4 with e | e <;> rw [e] <;> omega
      rw [Nat.mul_comm (2 ^ j)]
      generalize (T.testBit j).toNat * 2 ^ j = z at *
      generalize T % 2 ^ j = y at *
      omega
    have nx : ∀ z : Int, z = K.putTo w a n v (j + 1) → (L_ref01_Put w a n v).at (fun y => (L_ref01_Put w a n v).mu y < (L_ref01_Put w a n v).mu j) [SV.v (.int .u32 (w : Int)), .v (.int .i64 (a : Int)), .v (.int .i64 (n : Int)), .v (.int .u32 (v : Int)), .v (.int .u64 z), .v (.int .i64 (IntKind.i64.wrap ((j : Int) + 1)))] [] := fun z hz => by
      refine ⟨j + 1, ?_, rfl, ?_, ?_⟩
      · rw [hz, e2]
      · show j + 1 ≤ 32; omega
      · show 32 - (j + 1) < 32 - j; omega
    have hw := key w j (by omega) hlt
    have hb := hbit j
    simp only [Int.ofNat_eq_natCast] at *
    have no : ∀ {q : Prop} [Decidable q], q → ¬ decide q = false := fun h e => by simp [h] at e
    simp only [e3]
    refine ⟨fun _ _ => ⟨fun g1 => ⟨fun g2 => ?_, fun g2 => ?_⟩, fun g1 => ?_⟩, fun q => no (by omega) q⟩
    · have g1 : a ≤ j := by simpa using g1
      have g2 : j < a + n := by simp at g2; omega
      have e4 : IntKind.i64.wrap ((j : Int) - (a : Int)) = ((j - a : Nat) : Int) := by rw [wrapI64 (by omega) (by omega)]; omega
      rw [if_pos ⟨g1, g2⟩] at hb
      simp only [Int.ofNat_eq_natCast, e4]
      exact ⟨fun _ _ => ⟨fun _ _ => nx _ (key v (j - a) (by omega) (by omega) hb.symm), fun q => no (by omega) q⟩, fun q => no (by omega) q⟩
    · have g2 : ¬ j < a + n := by simp at g2; omega
      rw [if_neg (by omega)] at hb
      exact ⟨fun _ _ => nx _ (hw hb.symm), fun q => no (by omega) q⟩
    · have g1 : ¬ a ≤ j := by simpa using g1
      rw [if_neg (by omega)] at hb
      exact ⟨fun _ _ => nx _ (hw hb.symm), fun q => no (by omega) q⟩
  · have : j = 32 := by simp at h; omega
    subst this
    have e : K.putTo (w : Int) (a : Int) (n : Int) (v : Int) 32 = K.bput (w : Int) (a : Int) (n : Int) (v : Int) := by
      unfold K.putTo
      rw [hK, Nat.mod_eq_of_lt (show T < 2 ^ 32 by omega), ← hK, Int.toNat_of_nonneg (by unfold K.bput; omega)]
    have e2 : K.bput (w : Int) (a : Int) (n : Int) (v : Int) < 4294967296 := by
      have : 0 ≤ K.bput (w : Int) (a : Int) (n : Int) (v : Int) := by unfold K.bput; omega
      omega
    have e3 : 0 ≤ K.bput (w : Int) (a : Int) (n : Int) (v : Int) := by unfold K.bput; omega
    rw [e, wrap32, Int.emod_eq_of_lt e3 e2]
    rfl
  
theorem c_ref01_Put : SpecOk EB 42 S_ref01_Put := spec_sigL ok_ref01_Put (n := 60) (fun (w, at_, n, v, _) => fun _ => some (L_ref01_Put w at_ n v)) fun ⟨w, at_, n, v, ⟨⟩⟩ h hok => a_ref01_Put w at_ n v (of_decide_eq_true h) (ok_int (okSL_head hok)) (ok_int (okSL_head (okSL_tail hok))) (ok_int (okSL_head (okSL_tail (okSL_tail hok)))) (ok_int (okSL_head (okSL_tail (okSL_tail (okSL_tail hok)))))
end

/-! ref09_Return -/

def S_ref09_Return : Spec := sig [.core] [.core] (fun (c, _) => K.ret c)
noncomputable def E_ref09_Return : Env := EB.adds [(42, S_ref01_Put), (41, S_ref01_Field)]

theorem ok_ref09_Return : EnvOk E_ref09_Return := okEB.adds (l := _) ⟨c_ref01_Put, c_ref01_Field, trivial⟩

theorem t_ref09_Return (c : PCore) : evF E_ref09_Return 60 32 (encArgs [.core] (c, ())) = 
  Tree.letv (okO [(AT.i IntKind.u32)]) (K.field (List.getD c.csr 0 (0 : Int)) (2 : Int) (1 : Int)) fun x0 =>
  (Tree.letv (okO [(AT.i IntKind.u32)]) (K.bput (List.getD c.csr 0 (0 : Int)) (0 : Int) (1 : Int) x0) fun x1 =>
  (Tree.letv (okO [(AT.i IntKind.u32)]) (K.field x1 (3 : Int) (1 : Int)) fun x2 =>
  (Tree.letv (okO [(AT.i IntKind.u32)]) (K.bput x1 (1 : Int) (1 : Int) x2) fun x3 =>
  (Tree.leaf (SV.agg [(SV.arr IntKind.u32 16 c.regs), (SV.v (Value.int IntKind.u32 (List.getD (List.set c.csr 0 x3) 1 (0 : Int)))), (SV.arr IntKind.u32 12 (List.set c.csr 0 x3))]))))) := by kernel_rfl
section
attribute [local irreducible] evF evFL
theorem a_ref09_Return (c : PCore) (ok_c : okCore c) : (evF E_ref09_Return 60 32 (encArgs [.core] (c, ()))).ends fun out_ => decO [.core] out_ = some (K.ret c) := by
  rw [t_ref09_Return, Tree.ends_holds]
  obtain ⟨s0, s1⟩ := ok_c.csr.u32 (i := 0) (by omega)
  simp only [Tree.holds_loop, Tree.holds_fork, Tree.holds_next, if_true, Tree.holds_cond, Tree.holds_letv, Tree.holds_leaf, Tree.holds_fail, decO, decA, decTup, decMach, decCore, decTrap, decInstr, decPart, decGuest, decConf, decEvent, decVcpu, decStep, bytesS, boolS, eventsS, intsS, guestsS, vcpusS, rowS, castL, Option.bind_some, Option.map_some, Option.some.injEq, Nat.beq_refl, beq_self_eq_true, Bool.and_self, cond_true, cond_false, eq_self, K.ret, K.retS]
  generalize c.csr.getD 0 0 = s at *
  have p : ∀ x at_ v : Int, K.bput x at_ 1 v = ((2 ^ at_.toNat * (2 * (x.toNat / 2 ^ (at_.toNat + 1)) + v.toNat % 2) + x.toNat % 2 ^ at_.toNat : Nat) : Int) := fun _ _ _ => rfl
  have p0 : ∀ x v : Int, K.bput x 0 1 v = ((2 * (x.toNat / 2) + v.toNat % 2 : Nat) : Int) := fun x v => by rw [p]; simp [Nat.mod_one]
  have p1 : ∀ x v : Int, K.bput x 1 1 v = ((2 * (2 * (x.toNat / 4) + v.toNat % 2) + x.toNat % 2 : Nat) : Int) := fun x v => by rw [p]; simp
  have f2 : K.field s 2 1 = s / 4 % 2 := by simp [K.field, K.pow]
  have f3 : ∀ x : Int, K.field x 3 1 = x / 8 % 2 := fun x => by simp [K.field, K.pow]
  simp only [f2, f3, p0, p1]
  have hg : ∀ z, (c.csr.set 0 z).getD 1 0 = c.csr.getD 1 0 := fun z => by simp [List.getD_eq_getElem?_getD]
  rw [hg]
  refine fun _ _ _ _ => ?_
  congr 2
  omega
  
theorem c_ref09_Return : SpecOk EB 32 S_ref09_Return := spec_sig ok_ref09_Return (n := 60) fun ⟨c, ⟨⟩⟩ h hok => a_ref09_Return c (ok_core (okSL_head hok))
end

/-! ref04_Read -/

def S_ref04_Read : Spec := sig [.a .u32 12, .i .u64, .i .i64] [.i .u32] (fun (c, time, n, _) => K.csrRead c time n)
noncomputable def E_ref04_Read : Env := EB.adds []

theorem ok_ref04_Read : EnvOk E_ref04_Read := okEB.adds (l := _) trivial

theorem t_ref04_Read (c : List Int) (time : Int) (n : Int) : evF E_ref04_Read 60 34 (encArgs [.a .u32 12, .i .u64, .i .i64] (c, time, n, ())) = 
  bif (BEq.beq n (7 : Int)) then
    (Tree.leaf (SV.v (Value.int IntKind.u32 (IntKind.wrap IntKind.u32 (Int.tmod time (4294967296 : Int))))))
  else
    (bif (BEq.beq n (8 : Int)) then
      (Tree.leaf (SV.v (Value.int IntKind.u32 (IntKind.wrap IntKind.u32 (IntKind.wrap IntKind.u64 (Int.tdiv time (4294967296 : Int)))))))
    else
      (bif (decide (n < (0 : Int))) then
        (Tree.leaf (SV.v (Value.int IntKind.u32 (0 : Int))))
      else
        (bif (decide (n > (11 : Int))) then
          (Tree.leaf (SV.v (Value.int IntKind.u32 (0 : Int))))
        else
          (bif (inRange n 12) then
            (Tree.leaf (SV.v (Value.int IntKind.u32 (List.getD c ((Int.toNat n)) (0 : Int)))))
          else
            (Tree.fail))))) := by kernel_rfl
section
attribute [local irreducible] evF evFL
theorem a_ref04_Read (c : List Int) (time : Int) (n : Int) (ok_c : okL .u32 12 c) (ok_time : okI .u64 time) (ok_n : okI .i64 n) : (evF E_ref04_Read 60 34 (encArgs [.a .u32 12, .i .u64, .i .i64] (c, time, n, ()))).ends fun out_ => decO [.i .u32] out_ = some (K.csrRead c time n) := by
  rw [t_ref04_Read, Tree.ends_holds]
  obtain ⟨t0, t1⟩ := okI_u64 ok_time
  have e1 : IntKind.u32.wrap (Int.tmod time 4294967296) = time % 4294967296 := by rw [Int.tmod_eq_emod_of_nonneg t0, wrap32]; omega
  have e2 : IntKind.u32.wrap (IntKind.u64.wrap (Int.tdiv time 4294967296)) = time / 4294967296 := by rw [Int.tdiv_eq_ediv_of_nonneg t0, wrap64, wrap32]; omega
  simp only [Tree.holds_loop, Tree.holds_fork, Tree.holds_next, if_true, Tree.holds_cond, Tree.holds_letv, Tree.holds_leaf, Tree.holds_fail, decO, decA, decTup, decMach, decCore, decTrap, decInstr, decPart, decGuest, decConf, decEvent, decVcpu, decStep, bytesS, boolS, eventsS, intsS, guestsS, vcpusS, rowS, castL, Option.bind_some, Option.map_some, Option.some.injEq, Nat.beq_refl, beq_self_eq_true, Bool.and_self, cond_true, cond_false, eq_self, K.csrRead, e1, e2]
  grind [inRange]
  
theorem c_ref04_Read : SpecOk EB 34 S_ref04_Read := spec_sig ok_ref04_Read (n := 60) fun ⟨c, time, n, ⟨⟩⟩ h hok => a_ref04_Read c time n (ok_arr (okSL_head hok)) (ok_int (okSL_head (okSL_tail hok))) (ok_int (okSL_head (okSL_tail (okSL_tail hok))))
end

/-! ref04_Writable -/

def S_ref04_Writable : Spec := sig [.i .i64, .i .i64] [.b] (fun (n, b, _) => K.wrB n b)
noncomputable def E_ref04_Writable : Env := EB.adds []

theorem ok_ref04_Writable : EnvOk E_ref04_Writable := okEB.adds (l := _) trivial

theorem t_ref04_Writable (n : Int) (b : Int) : evF E_ref04_Writable 60 67 (encArgs [.i .i64, .i .i64] (n, b, ())) = 
  bif (BEq.beq n (0 : Int)) then
    (bif (decide (b ≥ (1 : Int))) then
      (bif (decide (b ≤ (3 : Int))) then
        (Tree.leaf (SV.b true))
      else
        (Tree.leaf (SV.b false)))
    else
      (Tree.leaf (SV.b false)))
  else
    (bif (BEq.beq n (1 : Int)) then
      (bif (decide (b ≥ (2 : Int))) then
        (Tree.leaf (SV.b true))
      else
        (Tree.leaf (SV.b false)))
    else
      (bif (BEq.beq n (4 : Int)) then
        (bif (decide (b ≥ (2 : Int))) then
          (Tree.leaf (SV.b true))
        else
          (Tree.leaf (SV.b false)))
      else
        (bif (BEq.beq n (5 : Int)) then
          (bif (decide (b ≥ (2 : Int))) then
            (Tree.leaf (SV.b true))
          else
            (Tree.leaf (SV.b false)))
        else
          (bif (BEq.beq n (2 : Int)) then
            (Tree.leaf (SV.b true))
          else
            (bif (BEq.beq n (3 : Int)) then
              (Tree.leaf (SV.b true))
            else
              (bif (BEq.beq n (6 : Int)) then
                (Tree.leaf (SV.b true))
              else
                (bif (BEq.beq n (9 : Int)) then
                  (Tree.leaf (SV.b true))
                else
                  (bif (BEq.beq n (10 : Int)) then
                    (Tree.leaf (SV.b true))
                  else
                    (bif (BEq.beq n (11 : Int)) then
                      (Tree.leaf (SV.b true))
                    else
                      (Tree.leaf (SV.b false))))))))))) := by kernel_rfl
section
attribute [local irreducible] evF evFL
theorem a_ref04_Writable (n : Int) (b : Int) (ok_n : okI .i64 n) (ok_b : okI .i64 b) : (evF E_ref04_Writable 60 67 (encArgs [.i .i64, .i .i64] (n, b, ()))).ends fun out_ => decO [.b] out_ = some (K.wrB n b) := by
  rw [t_ref04_Writable, Tree.ends_holds]
  simp only [Tree.holds_loop, Tree.holds_fork, Tree.holds_next, if_true, Tree.holds_cond, Tree.holds_letv, Tree.holds_leaf, Tree.holds_fail, decO, decA, decTup, decMach, decCore, decTrap, decInstr, decPart, decGuest, decConf, decEvent, decVcpu, decStep, bytesS, boolS, eventsS, intsS, guestsS, vcpusS, rowS, castL, Option.bind_some, Option.map_some, Option.some.injEq, Nat.beq_refl, beq_self_eq_true, Bool.and_self, cond_true, cond_false, eq_self, K.wrB]
  grind
  
theorem c_ref04_Writable : SpecOk EB 67 S_ref04_Writable := spec_sig ok_ref04_Writable (n := 60) fun ⟨n, b, ⟨⟩⟩ h hok => a_ref04_Writable n b (ok_int (okSL_head hok)) (ok_int (okSL_head (okSL_tail hok)))
end


end Go.Proofs.YtnhokcnnhmkbhaaGreatDoor
