/- Contracts of functions, by evaluation (nothing is claimed here). -/
import Derived.Test.YtjnigggpijfdeaaDoorSh29
import Derived.KernelRfl
import Derived.Test.YtjnigggpijfdeaaDoorProg
import Derived.Test.YtjnigggpijfdeaaDoorStepUserModeConfinementB1
set_option linter.unusedVariables false
set_option linter.unusedSimpArgs false
set_option maxRecDepth 100000
set_option maxHeartbeats 1000000
namespace Go.Proofs.YtjnigggpijfdeaaDoor
open Go
/-! trap_Return -/

def S_trap_Return : Spec := sig [.core] [.core] (fun (c, _) => K.ret c)
noncomputable def E_trap_Return : Env := EB.adds []

theorem ok_trap_Return : EnvOk E_trap_Return := okEB.adds (l := _) trivial

theorem t_trap_Return (c : PCore) : evF E_trap_Return 60 59 (encArgs [.core] (c, ())) = 
  bif (bne (andI IntKind.u32 (List.getD c.csr 0 (0 : Int)) (4 : Int)) (0 : Int)) then
    (bif (bne (andI IntKind.u32 (List.getD c.csr 0 (0 : Int)) (8 : Int)) (0 : Int)) then
      (Tree.leaf (SV.agg [(SV.arr IntKind.u32 16 c.regs), (SV.v (Value.int IntKind.u32 (List.getD c.csr 1 (0 : Int)))), (SV.arr IntKind.u32 12 (List.set c.csr 0 (orI IntKind.u32 (orI IntKind.u32 (List.getD c.csr 0 (0 : Int)) (1 : Int)) (2 : Int))))]))
    else
      (Tree.leaf (SV.agg [(SV.arr IntKind.u32 16 c.regs), (SV.v (Value.int IntKind.u32 (List.getD c.csr 1 (0 : Int)))), (SV.arr IntKind.u32 12 (List.set c.csr 0 (andNotI IntKind.u32 (orI IntKind.u32 (List.getD c.csr 0 (0 : Int)) (1 : Int)) (2 : Int))))])))
  else
    (bif (bne (andI IntKind.u32 (List.getD c.csr 0 (0 : Int)) (8 : Int)) (0 : Int)) then
      (Tree.leaf (SV.agg [(SV.arr IntKind.u32 16 c.regs), (SV.v (Value.int IntKind.u32 (List.getD c.csr 1 (0 : Int)))), (SV.arr IntKind.u32 12 (List.set c.csr 0 (orI IntKind.u32 (andNotI IntKind.u32 (List.getD c.csr 0 (0 : Int)) (1 : Int)) (2 : Int))))]))
    else
      (Tree.leaf (SV.agg [(SV.arr IntKind.u32 16 c.regs), (SV.v (Value.int IntKind.u32 (List.getD c.csr 1 (0 : Int)))), (SV.arr IntKind.u32 12 (List.set c.csr 0 (andNotI IntKind.u32 (andNotI IntKind.u32 (List.getD c.csr 0 (0 : Int)) (1 : Int)) (2 : Int))))]))) := by kernel_rfl
theorem a_trap_Return (c : PCore) (ok_c : okCore c) : (evF E_trap_Return 60 59 (encArgs [.core] (c, ()))).ends fun out_ => decO [.core] out_ = some (K.ret c) := by
  rw [t_trap_Return, Tree.ends_holds]
  obtain ⟨s0, s1⟩ := ok_c.csr.u32 (i := 0) (by omega)
  simp only [Tree.holds_loop, Tree.holds_fork, Tree.holds_next, if_true, Tree.holds_cond, Tree.holds_letv, Tree.holds_leaf, Tree.holds_fail, decO, decA, decTup, decMach, decCore, decTrap, decInstr, decPart, decGuest, decConf, decEvent, decVcpu, decStep, bytesS, boolS, eventsS, intsS, guestsS, vcpusS, rowS, castL, Option.bind_some, Option.map_some, Option.some.injEq, Nat.beq_refl, beq_self_eq_true, Bool.and_self, cond_true, cond_false, eq_self, K.ret, K.retS]
  generalize c.csr.getD 0 0 = s at *
  simp only [and_4 s0 s1, and_8 s0 s1, or_1 s0 s1, andNot_1 s0 s1]
  have a2 : ∀ x : Int, 0 ≤ x → x < 4294967296 → orI .u32 x 2 = x + 2 * (1 - x / 2 % 2) := fun x h0 h1 => or_2 h0 h1
  have a3 : ∀ x : Int, 0 ≤ x → x < 4294967296 → andNotI .u32 x 2 = x - 2 * (x / 2 % 2) := fun x h0 h1 => andNot_2 h0 h1
  rw [a2 _ (by omega) (by omega), a2 _ (by omega) (by omega), a3 _ (by omega) (by omega), a3 _ (by omega) (by omega)]
  simp only [bne_iff_ne, ne_eq, bne_eq_false_iff_eq]
  refine ⟨fun h1 => ⟨fun h2 => ?_, fun h2 => ?_⟩, fun h1 => ⟨fun h2 => ?_, fun h2 => ?_⟩⟩ <;> (congr 2; omega)
  
theorem c_trap_Return : SpecOk EB 59 S_trap_Return := spec_sig ok_trap_Return (n := 60) fun ⟨c, ⟨⟩⟩ h hok => a_trap_Return c (ok_core (okSL_head hok))

/-! csr_Read -/

def S_csr_Read : Spec := sig [.a .u32 12, .i .u64, .i .i64] [.i .u32] (fun (c, time, n, _) => K.csrRead c time n)
noncomputable def E_csr_Read : Env := EB.adds []

theorem ok_csr_Read : EnvOk E_csr_Read := okEB.adds (l := _) trivial

theorem t_csr_Read (c : List Int) (time : Int) (n : Int) : evF E_csr_Read 60 61 (encArgs [.a .u32 12, .i .u64, .i .i64] (c, time, n, ())) = 
  bif (BEq.beq n (7 : Int)) then
    (Tree.leaf (SV.v (Value.int IntKind.u32 (IntKind.wrap IntKind.u32 time))))
  else
    (bif (BEq.beq n (8 : Int)) then
      (Tree.leaf (SV.v (Value.int IntKind.u32 (IntKind.wrap IntKind.u32 (Int.fdiv time (4294967296 : Int))))))
    else
      (bif (decide (n ≥ (0 : Int))) then
        (bif (decide (n < (12 : Int))) then
          (bif (inRange n 12) then
            (Tree.leaf (SV.v (Value.int IntKind.u32 (List.getD c ((Int.toNat n)) (0 : Int)))))
          else
            (Tree.fail))
        else
          (Tree.leaf (SV.v (Value.int IntKind.u32 (0 : Int)))))
      else
        (Tree.leaf (SV.v (Value.int IntKind.u32 (0 : Int)))))) := by kernel_rfl
theorem a_csr_Read (c : List Int) (time : Int) (n : Int) (ok_c : okL .u32 12 c) (ok_time : okI .u64 time) (ok_n : okI .i64 n) : (evF E_csr_Read 60 61 (encArgs [.a .u32 12, .i .u64, .i .i64] (c, time, n, ()))).ends fun out_ => decO [.i .u32] out_ = some (K.csrRead c time n) := by
  rw [t_csr_Read, Tree.ends_holds]
  obtain ⟨t0, t1⟩ := okI_u64 ok_time
  have e1 : IntKind.u32.wrap (Int.fdiv time 4294967296) = time / 4294967296 := by rw [Int.fdiv_eq_ediv_of_nonneg _ (by omega), wrap32]; omega
  simp only [Tree.holds_loop, Tree.holds_fork, Tree.holds_next, if_true, Tree.holds_cond, Tree.holds_letv, Tree.holds_leaf, Tree.holds_fail, decO, decA, decTup, decMach, decCore, decTrap, decInstr, decPart, decGuest, decConf, decEvent, decVcpu, decStep, bytesS, boolS, eventsS, intsS, guestsS, vcpusS, rowS, castL, Option.bind_some, Option.map_some, Option.some.injEq, Nat.beq_refl, beq_self_eq_true, Bool.and_self, cond_true, cond_false, eq_self, K.csrRead, e1, wrap32]
  grind [inRange]
  
theorem c_csr_Read : SpecOk EB 61 S_csr_Read := spec_sig ok_csr_Read (n := 60) fun ⟨c, time, n, ⟨⟩⟩ h hok => a_csr_Read c time n (ok_arr (okSL_head hok)) (ok_int (okSL_head (okSL_tail hok))) (ok_int (okSL_head (okSL_tail (okSL_tail hok))))

/-! csr_masks -/

def S_csr_masks : Spec := sig [] [.a .u32 12] (fun _ => K.mk)
noncomputable def E_csr_masks : Env := EB.adds []

theorem ok_csr_masks : EnvOk E_csr_masks := okEB.adds (l := _) trivial

theorem t_csr_masks : evF E_csr_masks 60 89 (encArgs [] ()) = 
  Tree.leaf (SV.agg [(SV.arr IntKind.u32 12 [(14 : Int), (4294967292 : Int), (4294967295 : Int), (4294967295 : Int), (4294967292 : Int), (4294967292 : Int), (4294967295 : Int), (0 : Int), (0 : Int), (4294967295 : Int), (4294967295 : Int), (4294967295 : Int)])]) := by kernel_rfl
theorem a_csr_masks : (evF E_csr_masks 60 89 (encArgs [] ())).ends fun out_ => decO [.a .u32 12] out_ = some (K.mk) := by
  rw [t_csr_masks, Tree.ends_holds]
  rfl
  
theorem c_csr_masks : SpecOk EB 89 S_csr_masks := spec_sig ok_csr_masks (n := 60) fun () h hok => a_csr_masks 

/-! csr_Write -/

def S_csr_Write : Spec := sig [.a .u32 12, .i .i64, .i .u32] [.a .u32 12] (fun (c, n, v, _) => K.csrWrite c n v)
noncomputable def E_csr_Write : Env := EB.adds [(89, S_csr_masks)]

theorem ok_csr_Write : EnvOk E_csr_Write := okEB.adds (l := _) ⟨c_csr_masks, trivial⟩

theorem t_csr_Write (c : List Int) (n : Int) (v : Int) : evF E_csr_Write 60 62 (encArgs [.a .u32 12, .i .i64, .i .u32] (c, n, v, ())) = 
  bif (decide (n ≥ (0 : Int))) then
    (bif (decide (n < (12 : Int))) then
      (bif (inRange n 12) then
        (Tree.letv (okO [(AT.a IntKind.u32 12)]) K.mk fun x0 =>
        (bif (inRange n 12) then
          (Tree.letv (okO [(AT.a IntKind.u32 12)]) K.mk fun x1 =>
          (bif (inRange n 12) then
            (bif (inRange n 12) then
              (Tree.leaf (SV.agg [(SV.arr IntKind.u32 12 (List.set c ((Int.toNat n)) (orI IntKind.u32 (andNotI IntKind.u32 (List.getD c ((Int.toNat n)) (0 : Int)) (List.getD x0 ((Int.toNat n)) (0 : Int))) (andI IntKind.u32 v (List.getD x1 ((Int.toNat n)) (0 : Int))))))]))
            else
              (Tree.fail))
          else
            (Tree.fail)))
        else
          (Tree.fail)))
      else
        (Tree.fail))
    else
      (Tree.leaf (SV.agg [(SV.arr IntKind.u32 12 c)])))
  else
    (Tree.leaf (SV.agg [(SV.arr IntKind.u32 12 c)])) := by kernel_rfl
theorem a_csr_Write (c : List Int) (n : Int) (v : Int) (ok_c : okL .u32 12 c) (ok_n : okI .i64 n) (ok_v : okI .u32 v) : (evF E_csr_Write 60 62 (encArgs [.a .u32 12, .i .i64, .i .u32] (c, n, v, ()))).ends fun out_ => decO [.a .u32 12] out_ = some (K.csrWrite c n v) := by
  rw [t_csr_Write, Tree.ends_holds]
  simp only [Tree.holds_loop, Tree.holds_fork, Tree.holds_next, if_true, Tree.holds_cond, Tree.holds_letv, Tree.holds_leaf, Tree.holds_fail, decO, decA, decTup, decMach, decCore, decTrap, decInstr, decPart, decGuest, decConf, decEvent, decVcpu, decStep, bytesS, boolS, eventsS, intsS, guestsS, vcpusS, rowS, castL, Option.bind_some, Option.map_some, Option.some.injEq, Nat.beq_refl, beq_self_eq_true, Bool.and_self, cond_true, cond_false, eq_self, K.csrWrite, K.mix]
  by_cases hn : 0 ≤ n ∧ n < 12
  · simp only [hn.1, hn.2, inRange_iff.2 (show 0 ≤ n ∧ n < ((12 : Nat) : Int) from hn), ge_iff_le, decide_true, and_self, if_true]; simp
  · simp only [if_neg hn, inRange_iff]
    refine ⟨fun h1 => ⟨fun h2 => absurd ⟨by simpa using h1, by simpa using h2⟩ hn, fun _ => trivial⟩, fun _ => trivial⟩
  
theorem c_csr_Write : SpecOk EB 62 S_csr_Write := spec_sig ok_csr_Write (n := 60) fun ⟨c, n, v, ⟨⟩⟩ h hok => a_csr_Write c n v (ok_arr (okSL_head hok)) (ok_int (okSL_head (okSL_tail hok))) (ok_int (okSL_head (okSL_tail (okSL_tail hok))))

/-! priv_Execute -/

def S_priv_Execute : Spec := sig [.mach, .instr] [.mach] (fun (m, i, _) => K.priv m i) (pre := fun (m, i, _) => decide (m.out.length ≤ 1099511627776))
noncomputable def E_priv_Execute : Env := EB.adds [(58, S_regs_Get), (60, S_regs_Set), (59, S_trap_Return), (61, S_csr_Read), (62, S_csr_Write)]

theorem ok_priv_Execute : EnvOk E_priv_Execute := okEB.adds (l := _) ⟨c_regs_Get, c_regs_Set, c_trap_Return, c_csr_Read, c_csr_Write, trivial⟩

theorem t_priv_Execute (m : PMach) (i : PInstr) : evF E_priv_Execute 60 38 (encArgs [.mach, .instr] (m, i, ())) = 
  Tree.letv (okO [(AT.i IntKind.u32)]) (K.get m.core.regs i.ra) fun x0 =>
  (bif (BEq.beq i.op (23 : Int)) then
    (Tree.letv (okO [AT.core]) (K.ret m.core) fun x1 =>
    (Tree.leaf (SV.agg [(SV.arr IntKind.u32 16 x1.regs), (SV.v (Value.int IntKind.u32 x1.pc)), (SV.arr IntKind.u32 12 x1.csr), (SV.rd ETy.u8 m.mem), (SV.v (Value.int IntKind.u64 m.time)), (SV.rd ETy.u8 m.out), (SV.v (Value.bool m.halted))])))
  else
    (bif (BEq.beq i.op (21 : Int)) then
      (Tree.letv (okO [(AT.i IntKind.u32)]) (K.csrRead m.core.csr m.time (IntKind.wrap IntKind.i64 i.imm)) fun x1 =>
      (Tree.letv (okO [(AT.a IntKind.u32 16)]) (K.put m.core.regs i.rd x1) fun x2 =>
      (Tree.leaf (SV.agg [(SV.arr IntKind.u32 16 x2), (SV.v (Value.int IntKind.u32 (IntKind.wrap IntKind.u32 (m.core.pc + (4 : Int))))), (SV.arr IntKind.u32 12 m.core.csr), (SV.rd ETy.u8 m.mem), (SV.v (Value.int IntKind.u64 m.time)), (SV.rd ETy.u8 m.out), (SV.v (Value.bool m.halted))]))))
    else
      (bif (BEq.beq i.op (22 : Int)) then
        (Tree.letv (okO [(AT.a IntKind.u32 12)]) (K.csrWrite m.core.csr (IntKind.wrap IntKind.i64 i.imm) x0) fun x1 =>
        (Tree.leaf (SV.agg [(SV.arr IntKind.u32 16 m.core.regs), (SV.v (Value.int IntKind.u32 (IntKind.wrap IntKind.u32 (m.core.pc + (4 : Int))))), (SV.arr IntKind.u32 12 x1), (SV.rd ETy.u8 m.mem), (SV.v (Value.int IntKind.u64 m.time)), (SV.rd ETy.u8 m.out), (SV.v (Value.bool m.halted))])))
      else
        (bif (BEq.beq i.op (24 : Int)) then
          (Tree.leaf (SV.agg [(SV.arr IntKind.u32 16 m.core.regs), (SV.v (Value.int IntKind.u32 (IntKind.wrap IntKind.u32 (m.core.pc + (4 : Int))))), (SV.arr IntKind.u32 12 m.core.csr), (SV.rd ETy.u8 m.mem), (SV.v (Value.int IntKind.u64 m.time)), (SV.rd ETy.u8 m.out), (SV.b true)]))
        else
          (bif (BEq.beq i.op (25 : Int)) then
            (bif (Bool.and (decide ((0 : Int) ≤ (Int.ofNat (List.length m.out)))) (Bool.and (decide ((Int.ofNat (List.length m.out)) ≤ (Int.ofNat (List.length m.out)))) (decide ((Int.ofNat (List.length m.out)) = (Int.ofNat (List.length m.out)))))) then
              (bif (Nat.ble (((List.length (List.drop 0 (List.take (Int.toNat (Int.ofNat (List.length m.out))) m.out))) + 1) * 1) 140737488355328) then
                (Tree.leaf (SV.agg [(SV.arr IntKind.u32 16 m.core.regs), (SV.v (Value.int IntKind.u32 (IntKind.wrap IntKind.u32 (m.core.pc + (4 : Int))))), (SV.arr IntKind.u32 12 m.core.csr), (SV.rd ETy.u8 m.mem), (SV.v (Value.int IntKind.u64 m.time)), (SV.rd ETy.u8 (List.append (List.drop 0 (List.take (Int.toNat (Int.ofNat (List.length m.out))) m.out)) [(IntKind.wrap IntKind.u8 x0)])), (SV.v (Value.bool m.halted))]))
              else
                (Tree.fail))
            else
              (Tree.fail))
          else
            (Tree.leaf (SV.agg [(SV.arr IntKind.u32 16 m.core.regs), (SV.v (Value.int IntKind.u32 (IntKind.wrap IntKind.u32 (m.core.pc + (4 : Int))))), (SV.arr IntKind.u32 12 m.core.csr), (SV.rd ETy.u8 m.mem), (SV.v (Value.int IntKind.u64 m.time)), (SV.rd ETy.u8 m.out), (SV.v (Value.bool m.halted))]))))))) := by kernel_rfl
theorem a_priv_Execute (m : PMach) (i : PInstr) (hpre : m.out.length ≤ 1099511627776) (ok_m : okMach m) (ok_i : okInstr i) : (evF E_priv_Execute 60 38 (encArgs [.mach, .instr] (m, i, ()))).ends fun out_ => decO [.mach] out_ = some (K.priv m i) := by
  rw [t_priv_Execute, Tree.ends_holds]
  obtain ⟨a, b⟩ := okI_i32 ok_i.imm
  have e1 : IntKind.i64.wrap i.imm = i.imm := wrapI64 (by omega) (by omega)
  obtain ⟨g0, g1⟩ := K.get_ok ok_m.core.regs i.ra
  have e2 : Int.tmod (K.get m.core.regs i.ra) 256 = K.get m.core.regs i.ra % 256 := Int.tmod_eq_emod_of_nonneg g0
  simp only [Tree.holds_loop, Tree.holds_fork, Tree.holds_next, if_true, Tree.holds_cond, Tree.holds_letv, Tree.holds_leaf, Tree.holds_fail, decO, decA, decTup, decMach, decCore, decTrap, decInstr, decPart, decGuest, decConf, decEvent, decVcpu, decStep, bytesS, boolS, eventsS, intsS, guestsS, vcpusS, rowS, castL, Option.bind_some, Option.map_some, Option.some.injEq, Nat.beq_refl, beq_self_eq_true, Bool.and_self, cond_true, cond_false, eq_self, e1, e2, wrap8, wrap32, beq_iff_eq, beq_eq_false_iff_ne, bne_iff_ne, bne_eq_false_iff_eq, ne_eq, decide_eq_true_eq, decide_eq_false_iff_not, ble_true, ble_false, inRange_iff, inRange_false, List.drop_zero, Int.ofNat_eq_natCast, Int.toNat_natCast, List.take_length, List.append_eq, Bool.and_eq_true, decide_true, and_true, true_and, Int.emod_emod]
  repeat' (first | refine drop_ok ?_ | intro _ | with_reducible apply And.intro)
  all_goals first | omega | (simp_all [K.priv, K.adv]; done) | skip
  
theorem c_priv_Execute : SpecOk EB 38 S_priv_Execute := spec_sig ok_priv_Execute (n := 60) fun ⟨m, i, ⟨⟩⟩ h hok => a_priv_Execute m i (of_decide_eq_true h) (ok_mach (okSL_head hok)) (ok_instr (okSL_head (okSL_tail hok)))

/-! exec_Advance -/

def S_exec_Advance : Spec := sig [.core, .i .u32] [.core] (fun (c, by_, _) => { regs := c.regs, pc := (c.pc + by_) % 4294967296, csr := c.csr })
noncomputable def E_exec_Advance : Env := EB.adds []

theorem ok_exec_Advance : EnvOk E_exec_Advance := okEB.adds (l := _) trivial

theorem t_exec_Advance (c : PCore) (by_ : Int) : evF E_exec_Advance 60 63 (encArgs [.core, .i .u32] (c, by_, ())) = 
  Tree.leaf (SV.agg [(SV.arr IntKind.u32 16 c.regs), (SV.v (Value.int IntKind.u32 (IntKind.wrap IntKind.u32 (c.pc + by_)))), (SV.arr IntKind.u32 12 c.csr)]) := by kernel_rfl
theorem a_exec_Advance (c : PCore) (by_ : Int) (ok_c : okCore c) (ok_by_ : okI .u32 by_) : (evF E_exec_Advance 60 63 (encArgs [.core, .i .u32] (c, by_, ()))).ends fun out_ => decO [.core] out_ = some ({ regs := c.regs, pc := (c.pc + by_) % 4294967296, csr := c.csr }) := by
  rw [t_exec_Advance, Tree.ends_holds]
  simp only [Tree.holds_loop, Tree.holds_fork, Tree.holds_next, if_true, Tree.holds_cond, Tree.holds_letv, Tree.holds_leaf, Tree.holds_fail, decO, decA, decTup, decMach, decCore, decTrap, decInstr, decPart, decGuest, decConf, decEvent, decVcpu, decStep, bytesS, boolS, eventsS, intsS, guestsS, vcpusS, rowS, castL, Option.bind_some, Option.map_some, Option.some.injEq, Nat.beq_refl, beq_self_eq_true, Bool.and_self, cond_true, cond_false, eq_self, wrap32]
  
theorem c_exec_Advance : SpecOk EB 63 S_exec_Advance := spec_sig ok_exec_Advance (n := 60) fun ⟨c, by_, ⟨⟩⟩ h hok => a_exec_Advance c by_ (ok_core (okSL_head hok)) (ok_int (okSL_head (okSL_tail hok)))

/-! alu_LessSigned -/

def S_alu_LessSigned : Spec := sig [.i .u32, .i .u32] [.b] (fun (x, y, _) => decide (K.sgn x < K.sgn y))
noncomputable def E_alu_LessSigned : Env := EB.adds []

theorem ok_alu_LessSigned : EnvOk E_alu_LessSigned := okEB.adds (l := _) trivial

theorem t_alu_LessSigned (x : Int) (y : Int) : evF E_alu_LessSigned 60 105 (encArgs [.i .u32, .i .u32] (x, y, ())) = 
  bif (decide ((IntKind.wrap IntKind.i32 x) < (IntKind.wrap IntKind.i32 y))) then
    (Tree.leaf (SV.b true))
  else
    (Tree.leaf (SV.b false)) := by kernel_rfl
theorem a_alu_LessSigned (x : Int) (y : Int) (ok_x : okI .u32 x) (ok_y : okI .u32 y) : (evF E_alu_LessSigned 60 105 (encArgs [.i .u32, .i .u32] (x, y, ()))).ends fun out_ => decO [.b] out_ = some (decide (K.sgn x < K.sgn y)) := by
  rw [t_alu_LessSigned, Tree.ends_holds]
  obtain ⟨x0, x1⟩ := okI_u32 ok_x
  obtain ⟨y0, y1⟩ := okI_u32 ok_y
  have e : ∀ z : Int, 0 ≤ z → z < 4294967296 → IntKind.i32.wrap z = K.sgn z := fun z h0 h1 => by
    unfold K.sgn
    simp only [IntKind.wrap, IntKind.bits, IntKind.signed, Bool.true_and, decide_eq_true_eq, Nat.reduceSub, Int.reducePow, ge_iff_le]
    (repeat' split) <;> omega
  simp only [Tree.holds_loop, Tree.holds_fork, Tree.holds_next, if_true, Tree.holds_cond, Tree.holds_letv, Tree.holds_leaf, Tree.holds_fail, decO, decA, decTup, decMach, decCore, decTrap, decInstr, decPart, decGuest, decConf, decEvent, decVcpu, decStep, bytesS, boolS, eventsS, intsS, guestsS, vcpusS, rowS, castL, Option.bind_some, Option.map_some, Option.some.injEq, Nat.beq_refl, beq_self_eq_true, Bool.and_self, cond_true, cond_false, eq_self, beq_iff_eq, beq_eq_false_iff_ne, bne_iff_ne, bne_eq_false_iff_eq, ne_eq, decide_eq_true_eq, decide_eq_false_iff_not, ble_true, ble_false, inRange_iff, inRange_false, e x x0 x1, e y y0 y1]
  repeat' (first | refine drop_ok ?_ | intro _ | with_reducible apply And.intro)
  all_goals simp_all
  
theorem c_alu_LessSigned : SpecOk EB 105 S_alu_LessSigned := spec_sig ok_alu_LessSigned (n := 60) fun ⟨x, y, ⟨⟩⟩ h hok => a_alu_LessSigned x y (ok_int (okSL_head hok)) (ok_int (okSL_head (okSL_tail hok)))

/-! alu_Eval -/

def S_alu_Eval : Spec := sig [.i .i64, .i .u32, .i .u32] [.i .u32] (fun (op, x, y, _) => K.alu op x y)
noncomputable def E_alu_Eval : Env := EB.adds [(105, S_alu_LessSigned)]

theorem ok_alu_Eval : EnvOk E_alu_Eval := okEB.adds (l := _) ⟨c_alu_LessSigned, trivial⟩

theorem t_alu_Eval (op : Int) (x : Int) (y : Int) : evF E_alu_Eval 60 96 (encArgs [.i .i64, .i .u32, .i .u32] (op, x, y, ())) = 
  bif (BEq.beq op (1 : Int)) then
    (Tree.leaf (SV.v (Value.int IntKind.u32 (IntKind.wrap IntKind.u32 (x + y)))))
  else
    (bif (BEq.beq op (2 : Int)) then
      (Tree.leaf (SV.v (Value.int IntKind.u32 (IntKind.wrap IntKind.u32 (x - y)))))
    else
      (bif (BEq.beq op (3 : Int)) then
        (Tree.leaf (SV.v (Value.int IntKind.u32 (andI IntKind.u32 x y))))
      else
        (bif (BEq.beq op (4 : Int)) then
          (Tree.leaf (SV.v (Value.int IntKind.u32 (orI IntKind.u32 x y))))
        else
          (bif (BEq.beq op (5 : Int)) then
            (Tree.leaf (SV.v (Value.int IntKind.u32 (xorI IntKind.u32 x y))))
          else
            (bif (BEq.beq op (6 : Int)) then
              (Tree.letv (okO [AT.b]) (decide ((K.sgn x) < (K.sgn y))) fun x0 =>
              (bif x0 then
                (Tree.leaf (SV.v (Value.int IntKind.u32 (1 : Int))))
              else
                (Tree.leaf (SV.v (Value.int IntKind.u32 (0 : Int))))))
            else
              (bif (BEq.beq op (7 : Int)) then
                (bif (decide ((0 : Int) ≤ (andI IntKind.u32 y (31 : Int)))) then
                  (Tree.leaf (SV.v (Value.int IntKind.u32 (IntKind.wrap IntKind.u32 (x * ((2 : Int) ^ (if ((Int.toNat (andI IntKind.u32 y (31 : Int))) ≤ 32) then (Int.toNat (andI IntKind.u32 y (31 : Int))) else 32)))))))
                else
                  (Tree.fail))
              else
                (bif (BEq.beq op (8 : Int)) then
                  (bif (decide ((0 : Int) ≤ (andI IntKind.u32 y (31 : Int)))) then
                    (Tree.leaf (SV.v (Value.int IntKind.u32 (Int.fdiv x ((2 : Int) ^ (if ((Int.toNat (andI IntKind.u32 y (31 : Int))) ≤ 32) then (Int.toNat (andI IntKind.u32 y (31 : Int))) else 32))))))
                  else
                    (Tree.fail))
                else
                  (Tree.leaf (SV.v (Value.int IntKind.u32 (0 : Int))))))))))) := by kernel_rfl
theorem a_alu_Eval (op : Int) (x : Int) (y : Int) (ok_op : okI .i64 op) (ok_x : okI .u32 x) (ok_y : okI .u32 y) : (evF E_alu_Eval 60 96 (encArgs [.i .i64, .i .u32, .i .u32] (op, x, y, ()))).ends fun out_ => decO [.i .u32] out_ = some (K.alu op x y) := by
  rw [t_alu_Eval, Tree.ends_holds]
  obtain ⟨x0, x1⟩ := okI_u32 ok_x
  obtain ⟨y0, y1⟩ := okI_u32 ok_y
  have a31 : andI .u32 y 31 = y % 32 := by have := and_low32 5 (by omega) y0 y1; simpa using this
  have hle : (y % 32).toNat ≤ 32 := by omega
  have e7 : x * 2 ^ (y % 32).toNat = x * K.pow (y % 32) := by unfold K.pow; simp
  have e8 : x.fdiv (2 ^ (y % 32).toNat) = x / K.pow (y % 32) := by
    rw [Int.fdiv_eq_ediv_of_nonneg _ (Int.le_of_lt (Int.pow_pos (by omega)))]; unfold K.pow; simp
  simp only [Tree.holds_loop, Tree.holds_fork, Tree.holds_next, if_true, Tree.holds_cond, Tree.holds_letv, Tree.holds_leaf, Tree.holds_fail, decO, decA, decTup, decMach, decCore, decTrap, decInstr, decPart, decGuest, decConf, decEvent, decVcpu, decStep, bytesS, boolS, eventsS, intsS, guestsS, vcpusS, rowS, castL, Option.bind_some, Option.map_some, Option.some.injEq, Nat.beq_refl, beq_self_eq_true, Bool.and_self, cond_true, cond_false, eq_self, beq_iff_eq, beq_eq_false_iff_ne, bne_iff_ne, bne_eq_false_iff_eq, ne_eq, decide_eq_true_eq, decide_eq_false_iff_not, ble_true, ble_false, inRange_iff, inRange_false, wrap32, a31, if_pos hle, e7, e8]
  repeat' (first | refine drop_ok ?_ | intro _ | with_reducible apply And.intro)
  all_goals first | omega | (subst_vars; simp_all [K.alu]; done) | (simp_all [K.alu]; done)
  
theorem c_alu_Eval : SpecOk EB 96 S_alu_Eval := spec_sig ok_alu_Eval (n := 60) fun ⟨op, x, y, ⟨⟩⟩ h hok => a_alu_Eval op x y (ok_int (okSL_head hok)) (ok_int (okSL_head (okSL_tail hok))) (ok_int (okSL_head (okSL_tail (okSL_tail hok))))

/-! alu_BranchTaken -/

def S_alu_BranchTaken : Spec := sig [.i .i64, .i .u32, .i .u32] [.b] (fun (op, x, y, _) => K.taken op x y)
noncomputable def E_alu_BranchTaken : Env := EB.adds [(105, S_alu_LessSigned)]

theorem ok_alu_BranchTaken : EnvOk E_alu_BranchTaken := okEB.adds (l := _) ⟨c_alu_LessSigned, trivial⟩

theorem t_alu_BranchTaken (op : Int) (x : Int) (y : Int) : evF E_alu_BranchTaken 60 94 (encArgs [.i .i64, .i .u32, .i .u32] (op, x, y, ())) = 
  bif (BEq.beq op (15 : Int)) then
    (bif (BEq.beq x y) then
      (Tree.leaf (SV.b true))
    else
      (Tree.leaf (SV.b false)))
  else
    (bif (BEq.beq op (16 : Int)) then
      (bif (bne x y) then
        (Tree.leaf (SV.b true))
      else
        (Tree.leaf (SV.b false)))
    else
      (bif (BEq.beq op (17 : Int)) then
        (Tree.letv (okO [AT.b]) (decide ((K.sgn x) < (K.sgn y))) fun x0 =>
        (bif x0 then
          (Tree.leaf (SV.b true))
        else
          (Tree.leaf (SV.b false))))
      else
        (Tree.leaf (SV.b false)))) := by kernel_rfl
theorem a_alu_BranchTaken (op : Int) (x : Int) (y : Int) (ok_op : okI .i64 op) (ok_x : okI .u32 x) (ok_y : okI .u32 y) : (evF E_alu_BranchTaken 60 94 (encArgs [.i .i64, .i .u32, .i .u32] (op, x, y, ()))).ends fun out_ => decO [.b] out_ = some (K.taken op x y) := by
  rw [t_alu_BranchTaken, Tree.ends_holds]
  simp only [Tree.holds_loop, Tree.holds_fork, Tree.holds_next, if_true, Tree.holds_cond, Tree.holds_letv, Tree.holds_leaf, Tree.holds_fail, decO, decA, decTup, decMach, decCore, decTrap, decInstr, decPart, decGuest, decConf, decEvent, decVcpu, decStep, bytesS, boolS, eventsS, intsS, guestsS, vcpusS, rowS, castL, Option.bind_some, Option.map_some, Option.some.injEq, Nat.beq_refl, beq_self_eq_true, Bool.and_self, cond_true, cond_false, eq_self, beq_iff_eq, beq_eq_false_iff_ne, bne_iff_ne, bne_eq_false_iff_eq, ne_eq, decide_eq_true_eq, decide_eq_false_iff_not, ble_true, ble_false, inRange_iff, inRange_false, K.taken]
  repeat' (first | refine drop_ok ?_ | intro _ | with_reducible apply And.intro)
  all_goals simp_all
  
theorem c_alu_BranchTaken : SpecOk EB 94 S_alu_BranchTaken := spec_sig ok_alu_BranchTaken (n := 60) fun ⟨op, x, y, ⟨⟩⟩ h hok => a_alu_BranchTaken op x y (ok_int (okSL_head hok)) (ok_int (okSL_head (okSL_tail hok))) (ok_int (okSL_head (okSL_tail (okSL_tail hok))))

/-! mem_Store -/

def S_mem_Store : Spec := sig [.rd .u8, .i .u32, .i .i64, .i .u32] [.rd .u8, .b] (fun (m, a, n, v, _) => if K.inR m.length a n = true then (K.st m a n v, true) else (m, false)) (pre := fun (m, a, n, v, _) => decide ((n = 1 ∨ n = 4) ∧ m.length ≤ 1099511627776))
noncomputable def E_mem_Store : Env := EB.adds [(101, S_mem_InRange)]

theorem ok_mem_Store : EnvOk E_mem_Store := okEB.adds (l := _) ⟨c_mem_InRange, trivial⟩
theorem t1_c_mem_Store (m : List Int) (a v : Int) : evF E_mem_Store 60 104 [.rd .u8 m, .v (.int .u32 a), .v (.int .i64 1), .v (.int .u32 v)] = 
  bif (decide (And ((0 : Int) ≤ (1 : Int)) (And ((1 : Int) ≤ (1099511627776 : Int)) ((0 : Int) ≤ (Int.ofNat (List.length m)))))) then
    (Tree.letv (okO [AT.b]) (K.inR (Int.ofNat (List.length m)) a (1 : Int)) fun x0 =>
    (bif x0 then
      (bif (Nat.beq (List.length m) 0) then
        (Tree.fork
          (Tree.fail)
          (bif (Bool.or (Bool.not (Nat.beq (List.length m) 0)) true) then
            (bif (Nat.ble ((0 + (List.length m)) * 1) 140737488355328) then
              (bif (inRange (IntKind.wrap IntKind.i64 ((IntKind.wrap IntKind.i64 a) + (0 : Int))) (List.length m)) then
                (Tree.leaf (SV.tup [(SV.rd ETy.u8 (List.set m (Int.toNat (IntKind.wrap IntKind.i64 ((IntKind.wrap IntKind.i64 a) + (0 : Int)))) (IntKind.wrap IntKind.u8 (Int.fdiv v (1 : Int))))), (SV.b true)]))
              else
                (Tree.fail))
            else
              (Tree.fail))
          else
            (Tree.fail)))
      else
        (bif (Bool.or (Bool.not (Nat.beq (List.length m) 0)) true) then
          (bif (Nat.ble ((0 + (List.length m)) * 1) 140737488355328) then
            (bif (inRange (IntKind.wrap IntKind.i64 ((IntKind.wrap IntKind.i64 a) + (0 : Int))) (List.length m)) then
              (Tree.leaf (SV.tup [(SV.rd ETy.u8 (List.set m (Int.toNat (IntKind.wrap IntKind.i64 ((IntKind.wrap IntKind.i64 a) + (0 : Int)))) (IntKind.wrap IntKind.u8 (Int.fdiv v (1 : Int))))), (SV.b true)]))
            else
              (Tree.fail))
          else
            (Tree.fail))
        else
          (Tree.fail)))
    else
      (Tree.leaf (SV.tup [(SV.rd ETy.u8 m), (SV.b false)]))))
  else
    (Tree.fail) := by kernel_rfl
theorem t4_c_mem_Store (m : List Int) (a v : Int) : evF E_mem_Store 60 104 [.rd .u8 m, .v (.int .u32 a), .v (.int .i64 4), .v (.int .u32 v)] = 
  bif (decide (And ((0 : Int) ≤ (4 : Int)) (And ((4 : Int) ≤ (1099511627776 : Int)) ((0 : Int) ≤ (Int.ofNat (List.length m)))))) then
    (Tree.letv (okO [AT.b]) (K.inR (Int.ofNat (List.length m)) a (4 : Int)) fun x0 =>
    (bif x0 then
      (bif (Nat.beq (List.length m) 0) then
        (Tree.fork
          (Tree.fail)
          (bif (Bool.or (Bool.not (Nat.beq (List.length m) 0)) true) then
            (bif (Nat.ble ((0 + (List.length m)) * 1) 140737488355328) then
              (bif (inRange (IntKind.wrap IntKind.i64 ((IntKind.wrap IntKind.i64 a) + (0 : Int))) (List.length m)) then
                (bif (inRange (IntKind.wrap IntKind.i64 ((IntKind.wrap IntKind.i64 a) + (1 : Int))) (List.length (List.set m (Int.toNat (IntKind.wrap IntKind.i64 ((IntKind.wrap IntKind.i64 a) + (0 : Int)))) (IntKind.wrap IntKind.u8 (Int.fdiv v (1 : Int)))))) then
                  (bif (inRange (IntKind.wrap IntKind.i64 ((IntKind.wrap IntKind.i64 a) + (2 : Int))) (List.length (List.set (List.set m (Int.toNat (IntKind.wrap IntKind.i64 ((IntKind.wrap IntKind.i64 a) + (0 : Int)))) (IntKind.wrap IntKind.u8 (Int.fdiv v (1 : Int)))) (Int.toNat (IntKind.wrap IntKind.i64 ((IntKind.wrap IntKind.i64 a) + (1 : Int)))) (IntKind.wrap IntKind.u8 (Int.fdiv v (256 : Int)))))) then
                    (bif (inRange (IntKind.wrap IntKind.i64 ((IntKind.wrap IntKind.i64 a) + (3 : Int))) (List.length (List.set (List.set (List.set m (Int.toNat (IntKind.wrap IntKind.i64 ((IntKind.wrap IntKind.i64 a) + (0 : Int)))) (IntKind.wrap IntKind.u8 (Int.fdiv v (1 : Int)))) (Int.toNat (IntKind.wrap IntKind.i64 ((IntKind.wrap IntKind.i64 a) + (1 : Int)))) (IntKind.wrap IntKind.u8 (Int.fdiv v (256 : Int)))) (Int.toNat (IntKind.wrap IntKind.i64 ((IntKind.wrap IntKind.i64 a) + (2 : Int)))) (IntKind.wrap IntKind.u8 (Int.fdiv v (65536 : Int)))))) then
                      (Tree.leaf (SV.tup [(SV.rd ETy.u8 (List.set (List.set (List.set (List.set m (Int.toNat (IntKind.wrap IntKind.i64 ((IntKind.wrap IntKind.i64 a) + (0 : Int)))) (IntKind.wrap IntKind.u8 (Int.fdiv v (1 : Int)))) (Int.toNat (IntKind.wrap IntKind.i64 ((IntKind.wrap IntKind.i64 a) + (1 : Int)))) (IntKind.wrap IntKind.u8 (Int.fdiv v (256 : Int)))) (Int.toNat (IntKind.wrap IntKind.i64 ((IntKind.wrap IntKind.i64 a) + (2 : Int)))) (IntKind.wrap IntKind.u8 (Int.fdiv v (65536 : Int)))) (Int.toNat (IntKind.wrap IntKind.i64 ((IntKind.wrap IntKind.i64 a) + (3 : Int)))) (IntKind.wrap IntKind.u8 (Int.fdiv v (16777216 : Int))))), (SV.b true)]))
                    else
                      (Tree.fail))
                  else
                    (Tree.fail))
                else
                  (Tree.fail))
              else
                (Tree.fail))
            else
              (Tree.fail))
          else
            (Tree.fail)))
      else
        (bif (Bool.or (Bool.not (Nat.beq (List.length m) 0)) true) then
          (bif (Nat.ble ((0 + (List.length m)) * 1) 140737488355328) then
            (bif (inRange (IntKind.wrap IntKind.i64 ((IntKind.wrap IntKind.i64 a) + (0 : Int))) (List.length m)) then
              (bif (inRange (IntKind.wrap IntKind.i64 ((IntKind.wrap IntKind.i64 a) + (1 : Int))) (List.length (List.set m (Int.toNat (IntKind.wrap IntKind.i64 ((IntKind.wrap IntKind.i64 a) + (0 : Int)))) (IntKind.wrap IntKind.u8 (Int.fdiv v (1 : Int)))))) then
                (bif (inRange (IntKind.wrap IntKind.i64 ((IntKind.wrap IntKind.i64 a) + (2 : Int))) (List.length (List.set (List.set m (Int.toNat (IntKind.wrap IntKind.i64 ((IntKind.wrap IntKind.i64 a) + (0 : Int)))) (IntKind.wrap IntKind.u8 (Int.fdiv v (1 : Int)))) (Int.toNat (IntKind.wrap IntKind.i64 ((IntKind.wrap IntKind.i64 a) + (1 : Int)))) (IntKind.wrap IntKind.u8 (Int.fdiv v (256 : Int)))))) then
                  (bif (inRange (IntKind.wrap IntKind.i64 ((IntKind.wrap IntKind.i64 a) + (3 : Int))) (List.length (List.set (List.set (List.set m (Int.toNat (IntKind.wrap IntKind.i64 ((IntKind.wrap IntKind.i64 a) + (0 : Int)))) (IntKind.wrap IntKind.u8 (Int.fdiv v (1 : Int)))) (Int.toNat (IntKind.wrap IntKind.i64 ((IntKind.wrap IntKind.i64 a) + (1 : Int)))) (IntKind.wrap IntKind.u8 (Int.fdiv v (256 : Int)))) (Int.toNat (IntKind.wrap IntKind.i64 ((IntKind.wrap IntKind.i64 a) + (2 : Int)))) (IntKind.wrap IntKind.u8 (Int.fdiv v (65536 : Int)))))) then
                    (Tree.leaf (SV.tup [(SV.rd ETy.u8 (List.set (List.set (List.set (List.set m (Int.toNat (IntKind.wrap IntKind.i64 ((IntKind.wrap IntKind.i64 a) + (0 : Int)))) (IntKind.wrap IntKind.u8 (Int.fdiv v (1 : Int)))) (Int.toNat (IntKind.wrap IntKind.i64 ((IntKind.wrap IntKind.i64 a) + (1 : Int)))) (IntKind.wrap IntKind.u8 (Int.fdiv v (256 : Int)))) (Int.toNat (IntKind.wrap IntKind.i64 ((IntKind.wrap IntKind.i64 a) + (2 : Int)))) (IntKind.wrap IntKind.u8 (Int.fdiv v (65536 : Int)))) (Int.toNat (IntKind.wrap IntKind.i64 ((IntKind.wrap IntKind.i64 a) + (3 : Int)))) (IntKind.wrap IntKind.u8 (Int.fdiv v (16777216 : Int))))), (SV.b true)]))
                  else
                    (Tree.fail))
                else
                  (Tree.fail))
              else
                (Tree.fail))
            else
              (Tree.fail))
          else
            (Tree.fail))
        else
          (Tree.fail)))
    else
      (Tree.leaf (SV.tup [(SV.rd ETy.u8 m), (SV.b false)]))))
  else
    (Tree.fail) := by kernel_rfl
theorem a1_c_mem_Store (m : List Int) (a v : Int) (hm : m.length ≤ 1099511627776) (ok_m : okBytes m) (ok_a : okI .u32 a) (ok_v : okI .u32 v) : (evF E_mem_Store 60 104 [.rd .u8 m, .v (.int .u32 a), .v (.int .i64 1), .v (.int .u32 v)]).ends fun out_ => decO [.rd .u8, .b] out_ = some (if K.inR m.length a 1 = true then (K.st m a 1 v, true) else (m, false)) := by
  rw [t1_c_mem_Store, Tree.ends_holds]
  obtain ⟨a0, a1⟩ := okI_u32 ok_a
  obtain ⟨v0, v1⟩ := okI_u32 ok_v
  have ew : IntKind.i64.wrap a = a := wrapI64 (by omega) (by omega)
  have i0 : IntKind.i64.wrap (a + 0) = a := by rw [wrapI64 (by omega) (by omega)]; omega
  have s1 : K.inR m.length a 1 = true → K.st m a 1 v = m.set a.toNat (v % 256) := fun _ => rfl
  have hr : K.inR m.length a 1 = true ↔ a + 1 ≤ (m.length : Int) := by simp [K.inR]
  have d0 : v.fdiv 1 = v := by simp
  have hz : m.length.beq 0 = true → m.length = 0 := fun h => Nat.eq_of_beq_eq_true h
  simp only [Tree.holds_loop, Tree.holds_fork, Tree.holds_next, if_true, Tree.holds_cond, Tree.holds_letv, Tree.holds_leaf, Tree.holds_fail, decO, decA, decTup, decMach, decCore, decTrap, decInstr, decPart, decGuest, decConf, decEvent, decVcpu, decStep, bytesS, boolS, eventsS, intsS, guestsS, vcpusS, rowS, castL, Option.bind_some, Option.map_some, Option.some.injEq, Nat.beq_refl, beq_self_eq_true, Bool.and_self, cond_true, cond_false, eq_self, beq_iff_eq, beq_eq_false_iff_ne, bne_iff_ne, bne_eq_false_iff_eq, ne_eq, decide_eq_true_eq, decide_eq_false_iff_not, ble_true, ble_false, inRange_iff, inRange_false, Int.ofNat_eq_natCast, ew, i0, wrap8, d0]
  repeat' (first | refine drop_ok ?_ | intro _ | with_reducible apply And.intro)
  all_goals first | (rw [if_pos (by assumption)]; rfl) | (rw [if_neg (by simp_all)]; done) | omega | (exfalso; have := hr.1 (by assumption); omega) | (exfalso; have q := hr.1 (by assumption); have := hz (by assumption); omega) | (rename_i z; simp at z; done)
theorem a4_c_mem_Store (m : List Int) (a v : Int) (hm : m.length ≤ 1099511627776) (ok_m : okBytes m) (ok_a : okI .u32 a) (ok_v : okI .u32 v) : (evF E_mem_Store 60 104 [.rd .u8 m, .v (.int .u32 a), .v (.int .i64 4), .v (.int .u32 v)]).ends fun out_ => decO [.rd .u8, .b] out_ = some (if K.inR m.length a 4 = true then (K.st m a 4 v, true) else (m, false)) := by
  rw [t4_c_mem_Store, Tree.ends_holds]
  obtain ⟨a0, a1⟩ := okI_u32 ok_a
  obtain ⟨v0, v1⟩ := okI_u32 ok_v
  have ew : IntKind.i64.wrap a = a := wrapI64 (by omega) (by omega)
  have i0 : IntKind.i64.wrap (a + 0) = a := by rw [wrapI64 (by omega) (by omega)]; omega
  have i1 : IntKind.i64.wrap (a + 1) = a + 1 := wrapI64 (by omega) (by omega)
  have i2 : IntKind.i64.wrap (a + 2) = a + 2 := wrapI64 (by omega) (by omega)
  have i3 : IntKind.i64.wrap (a + 3) = a + 3 := wrapI64 (by omega) (by omega)
  have n1 : (a + 1).toNat = a.toNat + 1 := by omega
  have n2 : (a + 2).toNat = a.toNat + 2 := by omega
  have n3 : (a + 3).toNat = a.toNat + 3 := by omega
  have hr : K.inR m.length a 4 = true ↔ a + 4 ≤ (m.length : Int) := by simp [K.inR]
  have d0 : v.fdiv 1 = v := by simp
  have hz : m.length.beq 0 = true → m.length = 0 := fun h => Nat.eq_of_beq_eq_true h
  have d1 : v.fdiv 256 = v / 256 := Int.fdiv_eq_ediv_of_nonneg _ (by omega)
  have d2 : v.fdiv 65536 = v / 65536 := Int.fdiv_eq_ediv_of_nonneg _ (by omega)
  have d3 : v.fdiv 16777216 = v / 16777216 := Int.fdiv_eq_ediv_of_nonneg _ (by omega)
  simp only [Tree.holds_loop, Tree.holds_fork, Tree.holds_next, if_true, Tree.holds_cond, Tree.holds_letv, Tree.holds_leaf, Tree.holds_fail, decO, decA, decTup, decMach, decCore, decTrap, decInstr, decPart, decGuest, decConf, decEvent, decVcpu, decStep, bytesS, boolS, eventsS, intsS, guestsS, vcpusS, rowS, castL, Option.bind_some, Option.map_some, Option.some.injEq, Nat.beq_refl, beq_self_eq_true, Bool.and_self, cond_true, cond_false, eq_self, beq_iff_eq, beq_eq_false_iff_ne, bne_iff_ne, bne_eq_false_iff_eq, ne_eq, decide_eq_true_eq, decide_eq_false_iff_not, ble_true, ble_false, inRange_iff, inRange_false, Int.ofNat_eq_natCast, ew, i0, i1, i2, i3, n1, n2, n3, wrap8, d0, d1, d2, d3, List.length_set]
  repeat' (first | refine drop_ok ?_ | intro _ | with_reducible apply And.intro)
  all_goals first | (rw [if_pos (by assumption)]; rfl) | (rw [if_neg (by simp_all)]; done) | omega | (exfalso; have := hr.1 (by assumption); omega) | (exfalso; have q := hr.1 (by assumption); have := hz (by assumption); omega) | (rename_i z; simp at z; done) | trace_state
theorem c_mem_Store : SpecOk EB 104 S_mem_Store := spec_sig ok_mem_Store (n := 60) fun ⟨m, a, n, v, ⟨⟩⟩ h hok => by
  have h := of_decide_eq_true h
  have o1 := ok_bytes (okSL_head hok)
  have o2 := ok_int (okSL_head (okSL_tail hok))
  have o3 := ok_int (okSL_head (okSL_tail (okSL_tail (okSL_tail hok))))
  rcases h with ⟨h | h, hm⟩
  · have h : n = 1 := h
    subst h; exact a1_c_mem_Store m a v hm o1 o2 o3
  · have h : n = 4 := h
    subst h; exact a4_c_mem_Store m a v hm o1 o2 o3


/-! fetch_Store -/

def S_fetch_Store : Spec := sig [.mach, .i .u32, .i .i64, .i .u32] [.mach, .trap] (fun (m, a, n, v, _) => K.store m a n v) (pre := fun (m, a, n, v, _) => decide ((n = 1 ∨ n = 4) ∧ m.mem.length ≤ 1099511627776))
noncomputable def E_fetch_Store : Env := EB_1.adds [(80, S_fetch_Resolve), (104, S_mem_Store)]

theorem ok_fetch_Store : EnvOk E_fetch_Store := okEB_1.adds (l := _) ⟨c_fetch_Resolve, (up_to_1 c_mem_Store), trivial⟩

theorem t_fetch_Store (m : PMach) (a : Int) (n : Int) (v : Int) : evF E_fetch_Store 60 93 (encArgs [.mach, .i .u32, .i .i64, .i .u32] (m, a, n, v, ())) = 
  bif (decide (Or (n = (1 : Int)) (n = (4 : Int)))) then
    (Tree.letv (okO [(AT.i IntKind.u32), AT.trap]) (K.cell m a n) fun x0 =>
    (bif (Bool.not (Bool.and (BEq.beq x0.snd.cause (0 : Int)) (Bool.and (BEq.beq x0.snd.tval (0 : Int)) true))) then
      (Tree.leaf (SV.tup [(SV.agg [(SV.arr IntKind.u32 16 m.core.regs), (SV.v (Value.int IntKind.u32 m.core.pc)), (SV.arr IntKind.u32 12 m.core.csr), (SV.rd ETy.u8 m.mem), (SV.v (Value.int IntKind.u64 m.time)), (SV.rd ETy.u8 m.out), (SV.v (Value.bool m.halted))]), (SV.agg [(SV.v (Value.int IntKind.i64 x0.snd.cause)), (SV.v (Value.int IntKind.u32 x0.snd.tval))])]))
    else
      (bif (decide (And (Or (n = (1 : Int)) (n = (4 : Int))) ((List.length m.mem) ≤ 1099511627776))) then
        (Tree.letv (okO [(AT.rd ETy.u8), AT.b]) (if ((K.inR (Int.ofNat (List.length m.mem)) x0.fst n) = true) then ((K.st m.mem x0.fst n v), true) else (m.mem, false)) fun x1 =>
        (bif x1.snd then
          (Tree.leaf (SV.tup [(SV.agg [(SV.arr IntKind.u32 16 m.core.regs), (SV.v (Value.int IntKind.u32 m.core.pc)), (SV.arr IntKind.u32 12 m.core.csr), (SV.rd ETy.u8 x1.fst), (SV.v (Value.int IntKind.u64 m.time)), (SV.rd ETy.u8 m.out), (SV.v (Value.bool m.halted))]), (SV.agg [(SV.v (Value.int IntKind.i64 (0 : Int))), (SV.v (Value.int IntKind.u32 (0 : Int)))])]))
        else
          (Tree.leaf (SV.tup [(SV.agg [(SV.arr IntKind.u32 16 m.core.regs), (SV.v (Value.int IntKind.u32 m.core.pc)), (SV.arr IntKind.u32 12 m.core.csr), (SV.rd ETy.u8 x1.fst), (SV.v (Value.int IntKind.u64 m.time)), (SV.rd ETy.u8 m.out), (SV.v (Value.bool m.halted))]), (SV.agg [(SV.v (Value.int IntKind.i64 (0 : Int))), (SV.v (Value.int IntKind.u32 (0 : Int)))])]))))
      else
        (Tree.fail))))
  else
    (Tree.fail) := by kernel_rfl
theorem a_fetch_Store (m : PMach) (a : Int) (n : Int) (v : Int) (hpre : (n = 1 ∨ n = 4) ∧ m.mem.length ≤ 1099511627776) (ok_m : okMach m) (ok_a : okI .u32 a) (ok_n : okI .i64 n) (ok_v : okI .u32 v) : (evF E_fetch_Store 60 93 (encArgs [.mach, .i .u32, .i .i64, .i .u32] (m, a, n, v, ()))).ends fun out_ => decO [.mach, .trap] out_ = some (K.store m a n v) := by
  rw [t_fetch_Store, Tree.ends_holds]
  obtain ⟨a0, a1⟩ := okI_u32 ok_a
  have hr := fun h => cell_range ok_m.core (a := a) (n := n) a0 (by omega) h
  simp only [Tree.holds_loop, Tree.holds_fork, Tree.holds_next, if_true, Tree.holds_cond, Tree.holds_letv, Tree.holds_leaf, Tree.holds_fail, decO, decA, decTup, decMach, decCore, decTrap, decInstr, decPart, decGuest, decConf, decEvent, decVcpu, decStep, bytesS, boolS, eventsS, intsS, guestsS, vcpusS, rowS, castL, Option.bind_some, Option.map_some, Option.some.injEq, Nat.beq_refl, beq_self_eq_true, Bool.and_self, cond_true, cond_false, eq_self, beq_iff_eq, beq_eq_false_iff_ne, bne_iff_ne, bne_eq_false_iff_eq, ne_eq, decide_eq_true_eq, decide_eq_false_iff_not, ble_true, ble_false, inRange_iff, inRange_false, Int.ofNat_eq_natCast, K.store]
  by_cases h : (K.cell m a n).2.cause = 0
  · have ht := cell_zero h
    have hi : K.inR m.mem.length (K.cell m a n).1 n = true := by have := hr h; simp only [K.inR, decide_eq_true_eq]; omega
    simp only [h, ht, hi, if_true]
    simp [hpre]
  · simp [h, hpre]
  
theorem c_fetch_Store : SpecOk EB_1 93 S_fetch_Store := spec_sig ok_fetch_Store (n := 60) fun ⟨m, a, n, v, ⟨⟩⟩ h hok => a_fetch_Store m a n v (of_decide_eq_true h) (ok_mach (okSL_head hok)) (ok_int (okSL_head (okSL_tail hok))) (ok_int (okSL_head (okSL_tail (okSL_tail hok)))) (ok_int (okSL_head (okSL_tail (okSL_tail (okSL_tail hok)))))

/-! exec_at -/

def S_exec_at : Spec := sig [.pstep] [.i .u32] (fun (s, _) => (s.x + s.i.imm % 4294967296) % 4294967296)
noncomputable def E_exec_at : Env := EB.adds []

theorem ok_exec_at : EnvOk E_exec_at := okEB.adds (l := _) trivial

theorem t_exec_at (s : PStep) : evF E_exec_at 60 91 (encArgs [.pstep] (s, ())) = 
  Tree.leaf (SV.v (Value.int IntKind.u32 (IntKind.wrap IntKind.u32 (s.x + (IntKind.wrap IntKind.u32 s.i.imm))))) := by kernel_rfl
theorem a_exec_at (s : PStep) (ok_s : okS (encA (.pstep) s)) : (evF E_exec_at 60 91 (encArgs [.pstep] (s, ()))).ends fun out_ => decO [.i .u32] out_ = some ((s.x + s.i.imm % 4294967296) % 4294967296) := by
  rw [t_exec_at, Tree.ends_holds]
  simp only [Tree.holds_loop, Tree.holds_fork, Tree.holds_next, if_true, Tree.holds_cond, Tree.holds_letv, Tree.holds_leaf, Tree.holds_fail, decO, decA, decTup, decMach, decCore, decTrap, decInstr, decPart, decGuest, decConf, decEvent, decVcpu, decStep, bytesS, boolS, eventsS, intsS, guestsS, vcpusS, rowS, castL, Option.bind_some, Option.map_some, Option.some.injEq, Nat.beq_refl, beq_self_eq_true, Bool.and_self, cond_true, cond_false, eq_self, wrap32]
  
theorem c_exec_at : SpecOk EB 91 S_exec_at := spec_sig ok_exec_at (n := 60) fun ⟨s, ⟨⟩⟩ h hok => a_exec_at s (okSL_head hok)

/-! exec_size -/

def S_exec_size : Spec := sig [.pstep] [.i .i64] (fun (s, _) => if s.i.op = 13 ∨ s.i.op = 14 then 1 else 4)
noncomputable def E_exec_size : Env := EB.adds []

theorem ok_exec_size : EnvOk E_exec_size := okEB.adds (l := _) trivial

theorem t_exec_size (s : PStep) : evF E_exec_size 60 92 (encArgs [.pstep] (s, ())) = 
  bif (BEq.beq s.i.op (13 : Int)) then
    (Tree.leaf (SV.v (Value.int IntKind.i64 (1 : Int))))
  else
    (bif (BEq.beq s.i.op (14 : Int)) then
      (Tree.leaf (SV.v (Value.int IntKind.i64 (1 : Int))))
    else
      (Tree.leaf (SV.v (Value.int IntKind.i64 (4 : Int))))) := by kernel_rfl
theorem a_exec_size (s : PStep) (ok_s : okS (encA (.pstep) s)) : (evF E_exec_size 60 92 (encArgs [.pstep] (s, ()))).ends fun out_ => decO [.i .i64] out_ = some (if s.i.op = 13 ∨ s.i.op = 14 then 1 else 4) := by
  rw [t_exec_size, Tree.ends_holds]
  simp only [Tree.holds_loop, Tree.holds_fork, Tree.holds_next, if_true, Tree.holds_cond, Tree.holds_letv, Tree.holds_leaf, Tree.holds_fail, decO, decA, decTup, decMach, decCore, decTrap, decInstr, decPart, decGuest, decConf, decEvent, decVcpu, decStep, bytesS, boolS, eventsS, intsS, guestsS, vcpusS, rowS, castL, Option.bind_some, Option.map_some, Option.some.injEq, Nat.beq_refl, beq_self_eq_true, Bool.and_self, cond_true, cond_false, eq_self, beq_iff_eq, beq_eq_false_iff_ne, bne_iff_ne, bne_eq_false_iff_eq, ne_eq, decide_eq_true_eq, decide_eq_false_iff_not, ble_true, ble_false, inRange_iff, inRange_false]
  repeat' (first | refine drop_ok ?_ | intro _ | with_reducible apply And.intro)
  all_goals first | (rw [if_pos (by omega)]; done) | (rw [if_neg (by omega)]; done)
  
theorem c_exec_size : SpecOk EB 92 S_exec_size := spec_sig ok_exec_size (n := 60) fun ⟨s, ⟨⟩⟩ h hok => a_exec_size s (okSL_head hok)

/-! exec_far -/

def S_exec_far : Spec := sig [.pstep] [.i .u32] (fun (s, _) => 4 * (s.i.imm % 4294967296) % 4294967296)
noncomputable def E_exec_far : Env := EB.adds []

theorem ok_exec_far : EnvOk E_exec_far := okEB.adds (l := _) trivial

theorem t_exec_far (s : PStep) : evF E_exec_far 60 95 (encArgs [.pstep] (s, ())) = 
  Tree.leaf (SV.v (Value.int IntKind.u32 (IntKind.wrap IntKind.u32 ((4 : Int) * (IntKind.wrap IntKind.u32 s.i.imm))))) := by kernel_rfl
theorem a_exec_far (s : PStep) (ok_s : okS (encA (.pstep) s)) : (evF E_exec_far 60 95 (encArgs [.pstep] (s, ()))).ends fun out_ => decO [.i .u32] out_ = some (4 * (s.i.imm % 4294967296) % 4294967296) := by
  rw [t_exec_far, Tree.ends_holds]
  simp only [Tree.holds_loop, Tree.holds_fork, Tree.holds_next, if_true, Tree.holds_cond, Tree.holds_letv, Tree.holds_leaf, Tree.holds_fail, decO, decA, decTup, decMach, decCore, decTrap, decInstr, decPart, decGuest, decConf, decEvent, decVcpu, decStep, bytesS, boolS, eventsS, intsS, guestsS, vcpusS, rowS, castL, Option.bind_some, Option.map_some, Option.some.injEq, Nat.beq_refl, beq_self_eq_true, Bool.and_self, cond_true, cond_false, eq_self, wrap32]
  
theorem c_exec_far : SpecOk EB 95 S_exec_far := spec_sig ok_exec_far (n := 60) fun ⟨s, ⟨⟩⟩ h hok => a_exec_far s (okSL_head hok)

/-! exec_Execute -/

def S_exec_Execute : Spec := sig [.mach, .instr] [.mach, .trap] (fun (m, i, _) => K.exec m i) (pre := fun (m, i, _) => decide (1 ≤ i.op ∧ i.op ≤ 20 ∧ m.mem.length ≤ 1099511627776))
noncomputable def E_exec_Execute : Env := EB_1_2.adds [(58, S_regs_Get), (60, S_regs_Set), (63, S_exec_Advance), (96, S_alu_Eval), (94, S_alu_BranchTaken), (52, S_fetch_Load), (93, S_fetch_Store), (54, S_isa_FormatOf), (91, S_exec_at), (92, S_exec_size), (95, S_exec_far)]

theorem ok_exec_Execute : EnvOk E_exec_Execute := okEB_1_2.adds (l := _) ⟨(up_to_1_2 c_regs_Get), (up_to_1_2 c_regs_Set), (up_to_1_2 c_exec_Advance), (up_to_1_2 c_alu_Eval), (up_to_1_2 c_alu_BranchTaken), (up_1_to_1_2 c_fetch_Load), (up_1_to_1_2 c_fetch_Store), (up_2_to_1_2 c_isa_FormatOf), (up_to_1_2 c_exec_at), (up_to_1_2 c_exec_size), (up_to_1_2 c_exec_far), trivial⟩

theorem t_exec_Execute (m : PMach) (i : PInstr) : evF E_exec_Execute 60 39 (encArgs [.mach, .instr] (m, i, ())) = 
  Tree.letv (okO [(AT.i IntKind.u32)]) (K.get m.core.regs i.ra) fun x0 =>
  (Tree.letv (okO [(AT.i IntKind.u32)]) (K.get m.core.regs i.rb) fun x1 =>
  (Tree.letv (okO [(AT.i IntKind.u32)]) (K.get m.core.regs i.rd) fun x2 =>
  (bif (BEq.beq i.op (9 : Int)) then
    (Tree.letv (okO [(AT.i IntKind.u32)]) ((x0 + (i.imm % (4294967296 : Int))) % (4294967296 : Int)) fun x3 =>
    (Tree.letv (okO [(AT.a IntKind.u32 16)]) (K.put m.core.regs i.rd x3) fun x4 =>
    (Tree.letv (okO [AT.core]) (PCore.mk x4 ((m.core.pc + (4 : Int)) % (4294967296 : Int)) m.core.csr) fun x5 =>
    (Tree.leaf (SV.tup [(SV.agg [(SV.arr IntKind.u32 16 x5.regs), (SV.v (Value.int IntKind.u32 x5.pc)), (SV.arr IntKind.u32 12 x5.csr), (SV.rd ETy.u8 m.mem), (SV.v (Value.int IntKind.u64 m.time)), (SV.rd ETy.u8 m.out), (SV.v (Value.bool m.halted))]), (SV.agg [(SV.v (Value.int IntKind.i64 (0 : Int))), (SV.v (Value.int IntKind.u32 (0 : Int)))])])))))
  else
    (bif (BEq.beq i.op (10 : Int)) then
      (Tree.letv (okO [(AT.a IntKind.u32 16)]) (K.put m.core.regs i.rd (IntKind.wrap IntKind.u32 ((IntKind.wrap IntKind.u32 i.imm) * (16384 : Int)))) fun x3 =>
      (Tree.letv (okO [AT.core]) (PCore.mk x3 ((m.core.pc + (4 : Int)) % (4294967296 : Int)) m.core.csr) fun x4 =>
      (Tree.leaf (SV.tup [(SV.agg [(SV.arr IntKind.u32 16 x4.regs), (SV.v (Value.int IntKind.u32 x4.pc)), (SV.arr IntKind.u32 12 x4.csr), (SV.rd ETy.u8 m.mem), (SV.v (Value.int IntKind.u64 m.time)), (SV.rd ETy.u8 m.out), (SV.v (Value.bool m.halted))]), (SV.agg [(SV.v (Value.int IntKind.i64 (0 : Int))), (SV.v (Value.int IntKind.u32 (0 : Int)))])]))))
    else
      (bif (BEq.beq i.op (11 : Int)) then
        (Tree.letv (okO [(AT.i IntKind.u32)]) ((x0 + (i.imm % (4294967296 : Int))) % (4294967296 : Int)) fun x3 =>
        (Tree.letv (okO [(AT.i IntKind.i64)]) (if (Or (i.op = (13 : Int)) (i.op = (14 : Int))) then (1 : Int) else (4 : Int)) fun x4 =>
        (bif (decide (Or (x4 = (1 : Int)) (x4 = (4 : Int)))) then
          (Tree.letv (okO [(AT.i IntKind.u32), AT.trap]) (K.load m x3 x4) fun x5 =>
          (bif (BEq.beq x5.snd.cause (0 : Int)) then
            (Tree.letv (okO [(AT.a IntKind.u32 16)]) (K.put m.core.regs i.rd x5.fst) fun x6 =>
            (Tree.letv (okO [AT.core]) (PCore.mk x6 ((m.core.pc + (4 : Int)) % (4294967296 : Int)) m.core.csr) fun x7 =>
            (Tree.leaf (SV.tup [(SV.agg [(SV.arr IntKind.u32 16 x7.regs), (SV.v (Value.int IntKind.u32 x7.pc)), (SV.arr IntKind.u32 12 x7.csr), (SV.rd ETy.u8 m.mem), (SV.v (Value.int IntKind.u64 m.time)), (SV.rd ETy.u8 m.out), (SV.v (Value.bool m.halted))]), (SV.agg [(SV.v (Value.int IntKind.i64 x5.snd.cause)), (SV.v (Value.int IntKind.u32 x5.snd.tval))])]))))
          else
            (Tree.leaf (SV.tup [(SV.agg [(SV.arr IntKind.u32 16 m.core.regs), (SV.v (Value.int IntKind.u32 m.core.pc)), (SV.arr IntKind.u32 12 m.core.csr), (SV.rd ETy.u8 m.mem), (SV.v (Value.int IntKind.u64 m.time)), (SV.rd ETy.u8 m.out), (SV.v (Value.bool m.halted))]), (SV.agg [(SV.v (Value.int IntKind.i64 x5.snd.cause)), (SV.v (Value.int IntKind.u32 x5.snd.tval))])]))))
        else
          (Tree.fail))))
      else
        (bif (BEq.beq i.op (13 : Int)) then
          (Tree.letv (okO [(AT.i IntKind.u32)]) ((x0 + (i.imm % (4294967296 : Int))) % (4294967296 : Int)) fun x3 =>
          (Tree.letv (okO [(AT.i IntKind.i64)]) (if (Or (i.op = (13 : Int)) (i.op = (14 : Int))) then (1 : Int) else (4 : Int)) fun x4 =>
          (bif (decide (Or (x4 = (1 : Int)) (x4 = (4 : Int)))) then
            (Tree.letv (okO [(AT.i IntKind.u32), AT.trap]) (K.load m x3 x4) fun x5 =>
            (bif (BEq.beq x5.snd.cause (0 : Int)) then
              (Tree.letv (okO [(AT.a IntKind.u32 16)]) (K.put m.core.regs i.rd x5.fst) fun x6 =>
              (Tree.letv (okO [AT.core]) (PCore.mk x6 ((m.core.pc + (4 : Int)) % (4294967296 : Int)) m.core.csr) fun x7 =>
              (Tree.leaf (SV.tup [(SV.agg [(SV.arr IntKind.u32 16 x7.regs), (SV.v (Value.int IntKind.u32 x7.pc)), (SV.arr IntKind.u32 12 x7.csr), (SV.rd ETy.u8 m.mem), (SV.v (Value.int IntKind.u64 m.time)), (SV.rd ETy.u8 m.out), (SV.v (Value.bool m.halted))]), (SV.agg [(SV.v (Value.int IntKind.i64 x5.snd.cause)), (SV.v (Value.int IntKind.u32 x5.snd.tval))])]))))
            else
              (Tree.leaf (SV.tup [(SV.agg [(SV.arr IntKind.u32 16 m.core.regs), (SV.v (Value.int IntKind.u32 m.core.pc)), (SV.arr IntKind.u32 12 m.core.csr), (SV.rd ETy.u8 m.mem), (SV.v (Value.int IntKind.u64 m.time)), (SV.rd ETy.u8 m.out), (SV.v (Value.bool m.halted))]), (SV.agg [(SV.v (Value.int IntKind.i64 x5.snd.cause)), (SV.v (Value.int IntKind.u32 x5.snd.tval))])]))))
          else
            (Tree.fail))))
        else
          (bif (BEq.beq i.op (12 : Int)) then
            (Tree.letv (okO [(AT.i IntKind.u32)]) ((x0 + (i.imm % (4294967296 : Int))) % (4294967296 : Int)) fun x3 =>
            (Tree.letv (okO [(AT.i IntKind.i64)]) (if (Or (i.op = (13 : Int)) (i.op = (14 : Int))) then (1 : Int) else (4 : Int)) fun x4 =>
            (bif (decide (And (Or (x4 = (1 : Int)) (x4 = (4 : Int))) ((List.length m.mem) ≤ 1099511627776))) then
              (Tree.letv (okO [AT.mach, AT.trap]) (K.store m x3 x4 x2) fun x5 =>
              (bif (BEq.beq x5.snd.cause (0 : Int)) then
                (Tree.letv (okO [AT.core]) (PCore.mk x5.fst.core.regs ((x5.fst.core.pc + (4 : Int)) % (4294967296 : Int)) x5.fst.core.csr) fun x6 =>
                (Tree.leaf (SV.tup [(SV.agg [(SV.arr IntKind.u32 16 x6.regs), (SV.v (Value.int IntKind.u32 x6.pc)), (SV.arr IntKind.u32 12 x6.csr), (SV.rd ETy.u8 x5.fst.mem), (SV.v (Value.int IntKind.u64 x5.fst.time)), (SV.rd ETy.u8 x5.fst.out), (SV.v (Value.bool x5.fst.halted))]), (SV.agg [(SV.v (Value.int IntKind.i64 x5.snd.cause)), (SV.v (Value.int IntKind.u32 x5.snd.tval))])])))
              else
                (Tree.leaf (SV.tup [(SV.agg [(SV.arr IntKind.u32 16 m.core.regs), (SV.v (Value.int IntKind.u32 m.core.pc)), (SV.arr IntKind.u32 12 m.core.csr), (SV.rd ETy.u8 m.mem), (SV.v (Value.int IntKind.u64 m.time)), (SV.rd ETy.u8 m.out), (SV.v (Value.bool m.halted))]), (SV.agg [(SV.v (Value.int IntKind.i64 x5.snd.cause)), (SV.v (Value.int IntKind.u32 x5.snd.tval))])]))))
            else
              (Tree.fail))))
          else
            (bif (BEq.beq i.op (14 : Int)) then
              (Tree.letv (okO [(AT.i IntKind.u32)]) ((x0 + (i.imm % (4294967296 : Int))) % (4294967296 : Int)) fun x3 =>
              (Tree.letv (okO [(AT.i IntKind.i64)]) (if (Or (i.op = (13 : Int)) (i.op = (14 : Int))) then (1 : Int) else (4 : Int)) fun x4 =>
              (bif (decide (And (Or (x4 = (1 : Int)) (x4 = (4 : Int))) ((List.length m.mem) ≤ 1099511627776))) then
                (Tree.letv (okO [AT.mach, AT.trap]) (K.store m x3 x4 x2) fun x5 =>
                (bif (BEq.beq x5.snd.cause (0 : Int)) then
                  (Tree.letv (okO [AT.core]) (PCore.mk x5.fst.core.regs ((x5.fst.core.pc + (4 : Int)) % (4294967296 : Int)) x5.fst.core.csr) fun x6 =>
                  (Tree.leaf (SV.tup [(SV.agg [(SV.arr IntKind.u32 16 x6.regs), (SV.v (Value.int IntKind.u32 x6.pc)), (SV.arr IntKind.u32 12 x6.csr), (SV.rd ETy.u8 x5.fst.mem), (SV.v (Value.int IntKind.u64 x5.fst.time)), (SV.rd ETy.u8 x5.fst.out), (SV.v (Value.bool x5.fst.halted))]), (SV.agg [(SV.v (Value.int IntKind.i64 x5.snd.cause)), (SV.v (Value.int IntKind.u32 x5.snd.tval))])])))
                else
                  (Tree.leaf (SV.tup [(SV.agg [(SV.arr IntKind.u32 16 m.core.regs), (SV.v (Value.int IntKind.u32 m.core.pc)), (SV.arr IntKind.u32 12 m.core.csr), (SV.rd ETy.u8 m.mem), (SV.v (Value.int IntKind.u64 m.time)), (SV.rd ETy.u8 m.out), (SV.v (Value.bool m.halted))]), (SV.agg [(SV.v (Value.int IntKind.i64 x5.snd.cause)), (SV.v (Value.int IntKind.u32 x5.snd.tval))])]))))
              else
                (Tree.fail))))
            else
              (bif (BEq.beq i.op (15 : Int)) then
                (Tree.letv (okO [AT.b]) (K.taken i.op x2 x0) fun x3 =>
                (bif x3 then
                  (Tree.letv (okO [(AT.i IntKind.u32)]) (((4 : Int) * (i.imm % (4294967296 : Int))) % (4294967296 : Int)) fun x4 =>
                  (Tree.letv (okO [AT.core]) (PCore.mk m.core.regs ((m.core.pc + x4) % (4294967296 : Int)) m.core.csr) fun x5 =>
                  (Tree.leaf (SV.tup [(SV.agg [(SV.arr IntKind.u32 16 x5.regs), (SV.v (Value.int IntKind.u32 x5.pc)), (SV.arr IntKind.u32 12 x5.csr), (SV.rd ETy.u8 m.mem), (SV.v (Value.int IntKind.u64 m.time)), (SV.rd ETy.u8 m.out), (SV.v (Value.bool m.halted))]), (SV.agg [(SV.v (Value.int IntKind.i64 (0 : Int))), (SV.v (Value.int IntKind.u32 (0 : Int)))])]))))
                else
                  (Tree.letv (okO [AT.core]) (PCore.mk m.core.regs ((m.core.pc + (4 : Int)) % (4294967296 : Int)) m.core.csr) fun x4 =>
                  (Tree.leaf (SV.tup [(SV.agg [(SV.arr IntKind.u32 16 x4.regs), (SV.v (Value.int IntKind.u32 x4.pc)), (SV.arr IntKind.u32 12 x4.csr), (SV.rd ETy.u8 m.mem), (SV.v (Value.int IntKind.u64 m.time)), (SV.rd ETy.u8 m.out), (SV.v (Value.bool m.halted))]), (SV.agg [(SV.v (Value.int IntKind.i64 (0 : Int))), (SV.v (Value.int IntKind.u32 (0 : Int)))])])))))
              else
                (bif (BEq.beq i.op (16 : Int)) then
                  (Tree.letv (okO [AT.b]) (K.taken i.op x2 x0) fun x3 =>
                  (bif x3 then
                    (Tree.letv (okO [(AT.i IntKind.u32)]) (((4 : Int) * (i.imm % (4294967296 : Int))) % (4294967296 : Int)) fun x4 =>
                    (Tree.letv (okO [AT.core]) (PCore.mk m.core.regs ((m.core.pc + x4) % (4294967296 : Int)) m.core.csr) fun x5 =>
                    (Tree.leaf (SV.tup [(SV.agg [(SV.arr IntKind.u32 16 x5.regs), (SV.v (Value.int IntKind.u32 x5.pc)), (SV.arr IntKind.u32 12 x5.csr), (SV.rd ETy.u8 m.mem), (SV.v (Value.int IntKind.u64 m.time)), (SV.rd ETy.u8 m.out), (SV.v (Value.bool m.halted))]), (SV.agg [(SV.v (Value.int IntKind.i64 (0 : Int))), (SV.v (Value.int IntKind.u32 (0 : Int)))])]))))
                  else
                    (Tree.letv (okO [AT.core]) (PCore.mk m.core.regs ((m.core.pc + (4 : Int)) % (4294967296 : Int)) m.core.csr) fun x4 =>
                    (Tree.leaf (SV.tup [(SV.agg [(SV.arr IntKind.u32 16 x4.regs), (SV.v (Value.int IntKind.u32 x4.pc)), (SV.arr IntKind.u32 12 x4.csr), (SV.rd ETy.u8 m.mem), (SV.v (Value.int IntKind.u64 m.time)), (SV.rd ETy.u8 m.out), (SV.v (Value.bool m.halted))]), (SV.agg [(SV.v (Value.int IntKind.i64 (0 : Int))), (SV.v (Value.int IntKind.u32 (0 : Int)))])])))))
                else
                  (bif (BEq.beq i.op (17 : Int)) then
                    (Tree.letv (okO [AT.b]) (K.taken i.op x2 x0) fun x3 =>
                    (bif x3 then
                      (Tree.letv (okO [(AT.i IntKind.u32)]) (((4 : Int) * (i.imm % (4294967296 : Int))) % (4294967296 : Int)) fun x4 =>
                      (Tree.letv (okO [AT.core]) (PCore.mk m.core.regs ((m.core.pc + x4) % (4294967296 : Int)) m.core.csr) fun x5 =>
                      (Tree.leaf (SV.tup [(SV.agg [(SV.arr IntKind.u32 16 x5.regs), (SV.v (Value.int IntKind.u32 x5.pc)), (SV.arr IntKind.u32 12 x5.csr), (SV.rd ETy.u8 m.mem), (SV.v (Value.int IntKind.u64 m.time)), (SV.rd ETy.u8 m.out), (SV.v (Value.bool m.halted))]), (SV.agg [(SV.v (Value.int IntKind.i64 (0 : Int))), (SV.v (Value.int IntKind.u32 (0 : Int)))])]))))
                    else
                      (Tree.letv (okO [AT.core]) (PCore.mk m.core.regs ((m.core.pc + (4 : Int)) % (4294967296 : Int)) m.core.csr) fun x4 =>
                      (Tree.leaf (SV.tup [(SV.agg [(SV.arr IntKind.u32 16 x4.regs), (SV.v (Value.int IntKind.u32 x4.pc)), (SV.arr IntKind.u32 12 x4.csr), (SV.rd ETy.u8 m.mem), (SV.v (Value.int IntKind.u64 m.time)), (SV.rd ETy.u8 m.out), (SV.v (Value.bool m.halted))]), (SV.agg [(SV.v (Value.int IntKind.i64 (0 : Int))), (SV.v (Value.int IntKind.u32 (0 : Int)))])])))))
                  else
                    (bif (BEq.beq i.op (18 : Int)) then
                      (Tree.letv (okO [(AT.i IntKind.u32)]) (((4 : Int) * (i.imm % (4294967296 : Int))) % (4294967296 : Int)) fun x3 =>
                      (bif (BEq.beq i.op (19 : Int)) then
                        (Tree.letv (okO [(AT.i IntKind.u32)]) ((x0 + (i.imm % (4294967296 : Int))) % (4294967296 : Int)) fun x4 =>
                        (Tree.letv (okO [(AT.a IntKind.u32 16)]) (K.put m.core.regs i.rd (IntKind.wrap IntKind.u32 (m.core.pc + (4 : Int)))) fun x5 =>
                        (Tree.letv (okO [AT.core]) (PCore.mk x5 ((m.core.pc + (4 : Int)) % (4294967296 : Int)) m.core.csr) fun x6 =>
                        (Tree.leaf (SV.tup [(SV.agg [(SV.arr IntKind.u32 16 x6.regs), (SV.v (Value.int IntKind.u32 x4)), (SV.arr IntKind.u32 12 x6.csr), (SV.rd ETy.u8 m.mem), (SV.v (Value.int IntKind.u64 m.time)), (SV.rd ETy.u8 m.out), (SV.v (Value.bool m.halted))]), (SV.agg [(SV.v (Value.int IntKind.i64 (0 : Int))), (SV.v (Value.int IntKind.u32 (0 : Int)))])])))))
                      else
                        (Tree.letv (okO [(AT.a IntKind.u32 16)]) (K.put m.core.regs i.rd (IntKind.wrap IntKind.u32 (m.core.pc + (4 : Int)))) fun x4 =>
                        (Tree.letv (okO [AT.core]) (PCore.mk x4 ((m.core.pc + (4 : Int)) % (4294967296 : Int)) m.core.csr) fun x5 =>
                        (Tree.leaf (SV.tup [(SV.agg [(SV.arr IntKind.u32 16 x5.regs), (SV.v (Value.int IntKind.u32 (IntKind.wrap IntKind.u32 (m.core.pc + x3)))), (SV.arr IntKind.u32 12 x5.csr), (SV.rd ETy.u8 m.mem), (SV.v (Value.int IntKind.u64 m.time)), (SV.rd ETy.u8 m.out), (SV.v (Value.bool m.halted))]), (SV.agg [(SV.v (Value.int IntKind.i64 (0 : Int))), (SV.v (Value.int IntKind.u32 (0 : Int)))])]))))))
                    else
                      (bif (BEq.beq i.op (19 : Int)) then
                        (Tree.letv (okO [(AT.i IntKind.u32)]) (((4 : Int) * (i.imm % (4294967296 : Int))) % (4294967296 : Int)) fun x3 =>
                        (bif (BEq.beq i.op (19 : Int)) then
                          (Tree.letv (okO [(AT.i IntKind.u32)]) ((x0 + (i.imm % (4294967296 : Int))) % (4294967296 : Int)) fun x4 =>
                          (Tree.letv (okO [(AT.a IntKind.u32 16)]) (K.put m.core.regs i.rd (IntKind.wrap IntKind.u32 (m.core.pc + (4 : Int)))) fun x5 =>
                          (Tree.letv (okO [AT.core]) (PCore.mk x5 ((m.core.pc + (4 : Int)) % (4294967296 : Int)) m.core.csr) fun x6 =>
                          (Tree.leaf (SV.tup [(SV.agg [(SV.arr IntKind.u32 16 x6.regs), (SV.v (Value.int IntKind.u32 x4)), (SV.arr IntKind.u32 12 x6.csr), (SV.rd ETy.u8 m.mem), (SV.v (Value.int IntKind.u64 m.time)), (SV.rd ETy.u8 m.out), (SV.v (Value.bool m.halted))]), (SV.agg [(SV.v (Value.int IntKind.i64 (0 : Int))), (SV.v (Value.int IntKind.u32 (0 : Int)))])])))))
                        else
                          (Tree.letv (okO [(AT.a IntKind.u32 16)]) (K.put m.core.regs i.rd (IntKind.wrap IntKind.u32 (m.core.pc + (4 : Int)))) fun x4 =>
                          (Tree.letv (okO [AT.core]) (PCore.mk x4 ((m.core.pc + (4 : Int)) % (4294967296 : Int)) m.core.csr) fun x5 =>
                          (Tree.leaf (SV.tup [(SV.agg [(SV.arr IntKind.u32 16 x5.regs), (SV.v (Value.int IntKind.u32 (IntKind.wrap IntKind.u32 (m.core.pc + x3)))), (SV.arr IntKind.u32 12 x5.csr), (SV.rd ETy.u8 m.mem), (SV.v (Value.int IntKind.u64 m.time)), (SV.rd ETy.u8 m.out), (SV.v (Value.bool m.halted))]), (SV.agg [(SV.v (Value.int IntKind.i64 (0 : Int))), (SV.v (Value.int IntKind.u32 (0 : Int)))])]))))))
                      else
                        (bif (BEq.beq i.op (20 : Int)) then
                          (Tree.leaf (SV.tup [(SV.agg [(SV.arr IntKind.u32 16 m.core.regs), (SV.v (Value.int IntKind.u32 m.core.pc)), (SV.arr IntKind.u32 12 m.core.csr), (SV.rd ETy.u8 m.mem), (SV.v (Value.int IntKind.u64 m.time)), (SV.rd ETy.u8 m.out), (SV.v (Value.bool m.halted))]), (SV.agg [(SV.v (Value.int IntKind.i64 (5 : Int))), (SV.v (Value.int IntKind.u32 (0 : Int)))])]))
                        else
                          (Tree.letv (okO [(AT.i IntKind.i64)]) (K.form i.op) fun x3 =>
                          (bif (BEq.beq x3 (1 : Int)) then
                            (Tree.letv (okO [(AT.i IntKind.u32)]) (K.alu i.op x0 x1) fun x4 =>
                            (Tree.letv (okO [(AT.a IntKind.u32 16)]) (K.put m.core.regs i.rd x4) fun x5 =>
                            (Tree.letv (okO [AT.core]) (PCore.mk x5 ((m.core.pc + (4 : Int)) % (4294967296 : Int)) m.core.csr) fun x6 =>
                            (Tree.leaf (SV.tup [(SV.agg [(SV.arr IntKind.u32 16 x6.regs), (SV.v (Value.int IntKind.u32 x6.pc)), (SV.arr IntKind.u32 12 x6.csr), (SV.rd ETy.u8 m.mem), (SV.v (Value.int IntKind.u64 m.time)), (SV.rd ETy.u8 m.out), (SV.v (Value.bool m.halted))]), (SV.agg [(SV.v (Value.int IntKind.i64 (0 : Int))), (SV.v (Value.int IntKind.u32 (0 : Int)))])])))))
                          else
                            (Tree.leaf (SV.tup [(SV.agg [(SV.arr IntKind.u32 16 m.core.regs), (SV.v (Value.int IntKind.u32 m.core.pc)), (SV.arr IntKind.u32 12 m.core.csr), (SV.rd ETy.u8 m.mem), (SV.v (Value.int IntKind.u64 m.time)), (SV.rd ETy.u8 m.out), (SV.v (Value.bool m.halted))]), (SV.agg [(SV.v (Value.int IntKind.i64 (0 : Int))), (SV.v (Value.int IntKind.u32 (0 : Int)))])])))))))))))))))))) := by kernel_rfl
theorem a_exec_Execute (m : PMach) (i : PInstr) (hpre : 1 ≤ i.op ∧ i.op ≤ 20 ∧ m.mem.length ≤ 1099511627776) (ok_m : okMach m) (ok_i : okInstr i) : (evF E_exec_Execute 60 39 (encArgs [.mach, .instr] (m, i, ()))).ends fun out_ => decO [.mach, .trap] out_ = some (K.exec m i) := by
  rw [t_exec_Execute, Tree.ends_holds]
  obtain ⟨im0, im1⟩ := okI_i32 ok_i.imm
  have hpre1 := hpre.1
  have hpre2 := hpre.2.1
  simp only [Tree.holds_loop, Tree.holds_fork, Tree.holds_next, if_true, Tree.holds_cond, Tree.holds_letv, Tree.holds_leaf, Tree.holds_fail, decO, decA, decTup, decMach, decCore, decTrap, decInstr, decPart, decGuest, decConf, decEvent, decVcpu, decStep, bytesS, boolS, eventsS, intsS, guestsS, vcpusS, rowS, castL, Option.bind_some, Option.map_some, Option.some.injEq, Nat.beq_refl, beq_self_eq_true, Bool.and_self, cond_true, cond_false, eq_self, beq_iff_eq, beq_eq_false_iff_ne, bne_iff_ne, bne_eq_false_iff_eq, ne_eq, decide_eq_true_eq, decide_eq_false_iff_not, ble_true, ble_false, inRange_iff, inRange_false, wrap32]
  have e0 : (K.get m.core.regs i.ra + i.imm % 4294967296) % 4294967296 = K.ea m i := rfl
  have e1 : 4 * (i.imm % 4294967296) % 4294967296 = K.far i := by unfold K.far; omega
  have x1 : 1 ≤ i.op → i.op ≤ 8 → K.exec m i = _ := fun a b => by unfold K.exec; rw [if_pos ⟨a, b⟩]
  have x9 : i.op = 9 → K.exec m i = _ := fun a => by unfold K.exec; rw [if_neg (by omega), if_pos a]
  have x10 : i.op = 10 → K.exec m i = _ := fun a => by unfold K.exec; rw [if_neg (by omega), if_neg (by omega), if_pos a]
  have x11 : i.op = 11 ∨ i.op = 13 → K.exec m i = _ := fun a => by unfold K.exec; rw [if_neg (by omega), if_neg (by omega), if_neg (by omega), if_pos a]
  have x12 : i.op = 12 ∨ i.op = 14 → K.exec m i = _ := fun a => by unfold K.exec; rw [if_neg (by omega), if_neg (by omega), if_neg (by omega), if_neg (by omega), if_pos a]
  have x15 : 15 ≤ i.op → i.op ≤ 17 → K.exec m i = _ := fun a b => by unfold K.exec; rw [if_neg (by omega), if_neg (by omega), if_neg (by omega), if_neg (by omega), if_neg (by omega), if_pos ⟨a, b⟩]
  have x18 : i.op = 18 → K.exec m i = _ := fun a => by unfold K.exec; rw [if_neg (by omega), if_neg (by omega), if_neg (by omega), if_neg (by omega), if_neg (by omega), if_neg (by omega), if_pos a]
  have x19 : i.op = 19 → K.exec m i = _ := fun a => by unfold K.exec; rw [if_neg (by omega), if_neg (by omega), if_neg (by omega), if_neg (by omega), if_neg (by omega), if_neg (by omega), if_neg (by omega), if_pos a]
  have x20 : i.op = 20 → K.exec m i = (m, ⟨5, 0⟩) := fun a => by unfold K.exec; rw [if_neg (by omega), if_neg (by omega), if_neg (by omega), if_neg (by omega), if_neg (by omega), if_neg (by omega), if_neg (by omega), if_neg (by omega)]
  have hform : K.form i.op = 1 → i.op ≤ 8 := fun h => by unfold K.form at h; (repeat' split at h) <;> omega
  have hform2 : ¬ K.form i.op = 1 → 8 < i.op := fun h => by
    unfold K.form at h
    by_cases q : i.op ≤ 8
    · rw [if_pos ⟨hpre1, q⟩] at h; exact absurd rfl h
    · omega
  simp only [e0, e1]
  clear ok_m ok_i im0 im1
  have lz := fun a n => load_zero (m := m) (a := a) (n := n)
  have sz := fun a n v => store_zero (m := m) (a := a) (n := n) (v := v)
  have ss := fun a n v => store_same (m := m) (a := a) (n := n) (v := v)
  repeat' (first | refine drop_ok ?_ | intro _ | with_reducible apply And.intro)
  all_goals try omega
  all_goals try (rw [x9 (by assumption)]; rfl)
  all_goals try (rw [x10 (by assumption)]; rfl)
  all_goals try (rw [x18 (by assumption)]; rfl)
  all_goals try (rw [x19 (by assumption)]; rfl)
  all_goals try (rw [x20 (by assumption)])
  all_goals try (rw [x1 hpre1 (hform (by assumption))]; rfl)
  all_goals try (
    have q : i.op = 11 := by assumption
    have n1 : (if i.op = 13 ∨ i.op = 14 then (1 : Int) else 4) = 4 := if_neg (by omega)
    have n2 : (if i.op = 13 then (1 : Int) else 4) = 4 := if_neg (by omega)
    rw [x11 (.inl q)]
    simp only [n1, n2] at *
    first
      | (have c : (K.load m (K.ea m i) 4).2.cause = 0 := by assumption
         rw [if_pos c]; simp only [c, lz _ _ c]; rfl)
      | (rw [if_neg (show ¬ (K.load m (K.ea m i) 4).2.cause = 0 by assumption)]; first | done | rfl))
  all_goals try (
    have q : i.op = 13 := by assumption
    have n1 : (if i.op = 13 ∨ i.op = 14 then (1 : Int) else 4) = 1 := if_pos (by omega)
    have n2 : (if i.op = 13 then (1 : Int) else 4) = 1 := if_pos (by omega)
    rw [x11 (.inr q)]
    simp only [n1, n2] at *
    first
      | (have c : (K.load m (K.ea m i) 1).2.cause = 0 := by assumption
         rw [if_pos c]; simp only [c, lz _ _ c]; rfl)
      | (rw [if_neg (show ¬ (K.load m (K.ea m i) 1).2.cause = 0 by assumption)]; first | done | rfl))
  all_goals try (
    have q : i.op = 12 := by assumption
    have n1 : (if i.op = 13 ∨ i.op = 14 then (1 : Int) else 4) = 4 := if_neg (by omega)
    have n2 : (if i.op = 14 then (1 : Int) else 4) = 4 := if_neg (by omega)
    rw [x12 (.inl q)]
    simp only [n1, n2] at *
    first
      | (have c : (K.store m (K.ea m i) 4 (K.get m.core.regs i.rd)).2.cause = 0 := by assumption
         obtain ⟨s1, s2, s3, s4⟩ := ss (K.ea m i) 4 (K.get m.core.regs i.rd)
         rw [if_pos c]; simp only [c, sz _ _ _ c, s1]; simp only [K.wpc, s1])
      | (rw [if_neg (show ¬ (K.store m (K.ea m i) 4 (K.get m.core.regs i.rd)).2.cause = 0 by assumption)]; first | done | rfl))
  all_goals try (
    have q : i.op = 14 := by assumption
    have n1 : (if i.op = 13 ∨ i.op = 14 then (1 : Int) else 4) = 1 := if_pos (by omega)
    have n2 : (if i.op = 14 then (1 : Int) else 4) = 1 := if_pos (by omega)
    rw [x12 (.inr q)]
    simp only [n1, n2] at *
    first
      | (have c : (K.store m (K.ea m i) 1 (K.get m.core.regs i.rd)).2.cause = 0 := by assumption
         obtain ⟨s1, s2, s3, s4⟩ := ss (K.ea m i) 1 (K.get m.core.regs i.rd)
         rw [if_pos c]; simp only [c, sz _ _ _ c, s1]; simp only [K.wpc, s1])
      | (rw [if_neg (show ¬ (K.store m (K.ea m i) 1 (K.get m.core.regs i.rd)).2.cause = 0 by assumption)]; first | done | rfl))
  all_goals try (rw [x15 (by omega) (by omega), if_pos (by assumption)]; rfl)
  all_goals try (rw [x15 (by omega) (by omega), if_neg (by rw [show K.taken i.op (K.get m.core.regs i.rd) (K.get m.core.regs i.ra) = false by assumption]; decide)]; rfl)
  all_goals try (have := hform2 (by assumption); omega)
  all_goals try (exfalso; rename_i q; apply q; split <;> simp; done)
  all_goals try (exfalso; rename_i q; apply q; refine ⟨?_, hpre.2.2⟩; split <;> simp; done)
  
theorem c_exec_Execute : SpecOk EB_1_2 39 S_exec_Execute := spec_sig ok_exec_Execute (n := 60) fun ⟨m, i, ⟨⟩⟩ h hok => a_exec_Execute m i (of_decide_eq_true h) (ok_mach (okSL_head hok)) (ok_instr (okSL_head (okSL_tail hok)))

/-! step_StepNoTimer -/

def S_step_StepNoTimer : Spec := sig [.mach] [.mach, .trap] (fun (m, _) => K.plain m) (pre := fun (m, _) => decide (m.mem.length ≤ 1099511627776 ∧ m.out.length ≤ 1099511627776))
noncomputable def E_step_StepNoTimer : Env := EB_0_1_2.adds [(16, S_step_Current), (31, S_step_end), (36, S_isa_IsPrivileged), (38, S_priv_Execute), (39, S_exec_Execute)]

theorem ok_step_StepNoTimer : EnvOk E_step_StepNoTimer := okEB_0_1_2.adds (l := _) ⟨c_step_Current, (up_to_0_1_2 c_step_end), (up_to_0_1_2 c_isa_IsPrivileged), (up_to_0_1_2 c_priv_Execute), (up_1_2_to_0_1_2 c_exec_Execute), trivial⟩

theorem t_step_StepNoTimer (m : PMach) : evF E_step_StepNoTimer 60 17 (encArgs [.mach] (m, ())) = 
  bif m.halted then
    (Tree.leaf (SV.tup [(SV.agg [(SV.arr IntKind.u32 16 m.core.regs), (SV.v (Value.int IntKind.u32 m.core.pc)), (SV.arr IntKind.u32 12 m.core.csr), (SV.rd ETy.u8 m.mem), (SV.v (Value.int IntKind.u64 m.time)), (SV.rd ETy.u8 m.out), (SV.v (Value.bool m.halted))]), (SV.agg [(SV.v (Value.int IntKind.i64 (0 : Int))), (SV.v (Value.int IntKind.u32 (0 : Int)))])]))
  else
    (Tree.letv (okO [AT.instr, AT.trap]) (K.cur m) fun x0 =>
    (bif (bne x0.snd.cause (0 : Int)) then
      (Tree.letv (okO [AT.mach, AT.trap]) (K.endS m x0.snd) fun x1 =>
      (Tree.leaf (SV.tup [(SV.agg [(SV.arr IntKind.u32 16 x1.fst.core.regs), (SV.v (Value.int IntKind.u32 x1.fst.core.pc)), (SV.arr IntKind.u32 12 x1.fst.core.csr), (SV.rd ETy.u8 x1.fst.mem), (SV.v (Value.int IntKind.u64 x1.fst.time)), (SV.rd ETy.u8 x1.fst.out), (SV.v (Value.bool x1.fst.halted))]), (SV.agg [(SV.v (Value.int IntKind.i64 x1.snd.cause)), (SV.v (Value.int IntKind.u32 x1.snd.tval))])])))
    else
      (Tree.letv (okO [AT.b]) (K.privd x0.fst.op) fun x1 =>
      (bif x1 then
        (bif (decide ((List.length m.out) ≤ 1099511627776)) then
          (Tree.letv (okO [AT.mach]) (K.priv m x0.fst) fun x2 =>
          (Tree.letv (okO [AT.mach, AT.trap]) (K.endS x2 x0.snd) fun x3 =>
          (Tree.leaf (SV.tup [(SV.agg [(SV.arr IntKind.u32 16 x3.fst.core.regs), (SV.v (Value.int IntKind.u32 x3.fst.core.pc)), (SV.arr IntKind.u32 12 x3.fst.core.csr), (SV.rd ETy.u8 x3.fst.mem), (SV.v (Value.int IntKind.u64 x3.fst.time)), (SV.rd ETy.u8 x3.fst.out), (SV.v (Value.bool x3.fst.halted))]), (SV.agg [(SV.v (Value.int IntKind.i64 x3.snd.cause)), (SV.v (Value.int IntKind.u32 x3.snd.tval))])]))))
        else
          (Tree.fail))
      else
        (bif (decide (And ((1 : Int) ≤ x0.fst.op) (And (x0.fst.op ≤ (20 : Int)) ((List.length m.mem) ≤ 1099511627776)))) then
          (Tree.letv (okO [AT.mach, AT.trap]) (K.exec m x0.fst) fun x2 =>
          (Tree.letv (okO [AT.mach, AT.trap]) (K.endS x2.fst x2.snd) fun x3 =>
          (Tree.leaf (SV.tup [(SV.agg [(SV.arr IntKind.u32 16 x3.fst.core.regs), (SV.v (Value.int IntKind.u32 x3.fst.core.pc)), (SV.arr IntKind.u32 12 x3.fst.core.csr), (SV.rd ETy.u8 x3.fst.mem), (SV.v (Value.int IntKind.u64 x3.fst.time)), (SV.rd ETy.u8 x3.fst.out), (SV.v (Value.bool x3.fst.halted))]), (SV.agg [(SV.v (Value.int IntKind.i64 x3.snd.cause)), (SV.v (Value.int IntKind.u32 x3.snd.tval))])]))))
        else
          (Tree.fail)))))) := by kernel_rfl
theorem a_step_StepNoTimer (m : PMach) (hpre : m.mem.length ≤ 1099511627776 ∧ m.out.length ≤ 1099511627776) (ok_m : okMach m) : (evF E_step_StepNoTimer 60 17 (encArgs [.mach] (m, ()))).ends fun out_ => decO [.mach, .trap] out_ = some (K.plain m) := by
  rw [t_step_StepNoTimer, Tree.ends_holds]
  have hmay := fun h => cur_may (m := m) h
  have hz := fun h => cur_zero (m := m) h
  simp only [Tree.holds_loop, Tree.holds_fork, Tree.holds_next, if_true, Tree.holds_cond, Tree.holds_letv, Tree.holds_leaf, Tree.holds_fail, decO, decA, decTup, decMach, decCore, decTrap, decInstr, decPart, decGuest, decConf, decEvent, decVcpu, decStep, bytesS, boolS, eventsS, intsS, guestsS, vcpusS, rowS, castL, Option.bind_some, Option.map_some, Option.some.injEq, Nat.beq_refl, beq_self_eq_true, Bool.and_self, cond_true, cond_false, eq_self, beq_iff_eq, beq_eq_false_iff_ne, bne_iff_ne, bne_eq_false_iff_eq, ne_eq, decide_eq_true_eq, decide_eq_false_iff_not, ble_true, ble_false, inRange_iff, inRange_false]
  unfold K.plain
  repeat' (first | refine drop_ok ?_ | intro _ | with_reducible apply And.intro)
  · rename_i h; rw [if_pos h]
  · rename_i h c; rw [if_neg (by rw [h]; decide), if_pos c]
  · rename_i h c p _; rw [if_neg (by rw [h]; decide), if_neg (by simp [c]), if_pos p, hz c]
  · omega
  · rename_i h c p _; rw [if_neg (by rw [h]; decide), if_neg (by simp [c]), if_neg (by rw [p]; decide)]
  · rename_i h c p q
    have hm := (hmay c).op
    apply q
    refine ⟨hm.1, ?_, hpre.1⟩
    have : ¬ (21 ≤ (K.cur m).1.op ∧ (K.cur m).1.op ≤ 25) := fun z => by rw [privd_range.2 z] at p; cases p
    omega
  
theorem c_step_StepNoTimer : SpecOk EB_0_1_2 17 S_step_StepNoTimer := spec_sig ok_step_StepNoTimer (n := 60) fun ⟨m, ⟨⟩⟩ h hok => a_step_StepNoTimer m (of_decide_eq_true h) (ok_mach (okSL_head hok))

/-! step_Step -/

def S_step_Step : Spec := sig [.mach] [.mach, .trap] (fun (m, _) => K.step m) (pre := fun (m, _) => decide (m.mem.length ≤ 1099511627776 ∧ m.out.length ≤ 1099511627776))
noncomputable def E_step_Step : Env := EB_0_1_2.adds [(30, S_fetch_TimerPending), (31, S_step_end), (17, S_step_StepNoTimer)]

theorem ok_step_Step : EnvOk E_step_Step := okEB_0_1_2.adds (l := _) ⟨(up_to_0_1_2 c_fetch_TimerPending), (up_to_0_1_2 c_step_end), c_step_StepNoTimer, trivial⟩

theorem t_step_Step (m : PMach) : evF E_step_Step 60 12 (encArgs [.mach] (m, ())) = 
  bif m.halted then
    (bif (decide (And ((List.length m.mem) ≤ 1099511627776) ((List.length m.out) ≤ 1099511627776))) then
      (Tree.letv (okO [AT.mach, AT.trap]) (K.plain m) fun x0 =>
      (Tree.leaf (SV.tup [(SV.agg [(SV.arr IntKind.u32 16 x0.fst.core.regs), (SV.v (Value.int IntKind.u32 x0.fst.core.pc)), (SV.arr IntKind.u32 12 x0.fst.core.csr), (SV.rd ETy.u8 x0.fst.mem), (SV.v (Value.int IntKind.u64 x0.fst.time)), (SV.rd ETy.u8 x0.fst.out), (SV.v (Value.bool x0.fst.halted))]), (SV.agg [(SV.v (Value.int IntKind.i64 x0.snd.cause)), (SV.v (Value.int IntKind.u32 x0.snd.tval))])])))
    else
      (Tree.fail))
  else
    (Tree.letv (okO [AT.b]) (K.due m) fun x0 =>
    (bif x0 then
      (Tree.letv (okO [AT.mach, AT.trap]) (K.endS m (PTrap.mk (6 : Int) (0 : Int))) fun x1 =>
      (Tree.leaf (SV.tup [(SV.agg [(SV.arr IntKind.u32 16 x1.fst.core.regs), (SV.v (Value.int IntKind.u32 x1.fst.core.pc)), (SV.arr IntKind.u32 12 x1.fst.core.csr), (SV.rd ETy.u8 x1.fst.mem), (SV.v (Value.int IntKind.u64 x1.fst.time)), (SV.rd ETy.u8 x1.fst.out), (SV.v (Value.bool x1.fst.halted))]), (SV.agg [(SV.v (Value.int IntKind.i64 x1.snd.cause)), (SV.v (Value.int IntKind.u32 x1.snd.tval))])])))
    else
      (bif (decide (And ((List.length m.mem) ≤ 1099511627776) ((List.length m.out) ≤ 1099511627776))) then
        (Tree.letv (okO [AT.mach, AT.trap]) (K.plain m) fun x1 =>
        (Tree.leaf (SV.tup [(SV.agg [(SV.arr IntKind.u32 16 x1.fst.core.regs), (SV.v (Value.int IntKind.u32 x1.fst.core.pc)), (SV.arr IntKind.u32 12 x1.fst.core.csr), (SV.rd ETy.u8 x1.fst.mem), (SV.v (Value.int IntKind.u64 x1.fst.time)), (SV.rd ETy.u8 x1.fst.out), (SV.v (Value.bool x1.fst.halted))]), (SV.agg [(SV.v (Value.int IntKind.i64 x1.snd.cause)), (SV.v (Value.int IntKind.u32 x1.snd.tval))])])))
      else
        (Tree.fail)))) := by kernel_rfl
theorem a_step_Step (m : PMach) (hpre : m.mem.length ≤ 1099511627776 ∧ m.out.length ≤ 1099511627776) (ok_m : okMach m) : (evF E_step_Step 60 12 (encArgs [.mach] (m, ()))).ends fun out_ => decO [.mach, .trap] out_ = some (K.step m) := by
  rw [t_step_Step, Tree.ends_holds]
  simp only [Tree.holds_loop, Tree.holds_fork, Tree.holds_next, if_true, Tree.holds_cond, Tree.holds_letv, Tree.holds_leaf, Tree.holds_fail, decO, decA, decTup, decMach, decCore, decTrap, decInstr, decPart, decGuest, decConf, decEvent, decVcpu, decStep, bytesS, boolS, eventsS, intsS, guestsS, vcpusS, rowS, castL, Option.bind_some, Option.map_some, Option.some.injEq, Nat.beq_refl, beq_self_eq_true, Bool.and_self, cond_true, cond_false, eq_self, beq_iff_eq, beq_eq_false_iff_ne, bne_iff_ne, bne_eq_false_iff_eq, ne_eq, decide_eq_true_eq, decide_eq_false_iff_not, ble_true, ble_false, inRange_iff, inRange_false]
  unfold K.step
  repeat' (first | refine drop_ok ?_ | intro _ | with_reducible apply And.intro)
  all_goals first | (simp_all; done) | omega
  
theorem c_step_Step : SpecOk EB_0_1_2 12 S_step_Step := spec_sig ok_step_Step (n := 60) fun ⟨m, ⟨⟩⟩ h hok => a_step_Step m (of_decide_eq_true h) (ok_mach (okSL_head hok))

/-! ref05_Same -/
@[reducible] def L_ref05_Same (a b : List Int) : LoopSpec where
  σ := Nat
  slots := [0, 1, 4, 5]
  keys := []
  vals := fun j => [.rd .u8 a, .rd .u8 b, .b false, .v (.int .i64 (j : Int))]
  blks := fun _ => []
  inv := fun j => j ≤ a.length ∧ a.take j = b.take j
  mu := fun j => a.length - j
def S_ref05_Same : Spec := sig [.rd .u8, .rd .u8] [.b] (fun (a, b, _) => decide (a = b))
noncomputable def E_ref05_Same : Env := EB.adds []

theorem ok_ref05_Same : EnvOk E_ref05_Same := okEB.adds (l := _) trivial

theorem t_ref05_Same (a : List Int) (b : List Int) : evFL E_ref05_Same (fun _ => some (L_ref05_Same a b)) 60 15 (encArgs [.rd .u8, .rd .u8] (a, b, ())) = 
  bif (bne (Int.ofNat (List.length a)) (Int.ofNat (List.length b))) then
    (Tree.leaf (SV.b false))
  else
    (Tree.loop 0 (L_ref05_Same a b) [(SV.rd ETy.u8 a), (SV.rd ETy.u8 b), (SV.b false), (SV.v (Value.int IntKind.i64 (0 : Int)))] [] fun (x0 : Nat) =>
    (bif (decide ((Int.ofNat x0) < (Int.ofNat (List.length a)))) then
      (bif (inRange (Int.ofNat x0) (List.length a)) then
        (bif (inRange (Int.ofNat x0) (List.length b)) then
          (bif (bne (List.getD a (Int.toNat (Int.ofNat x0)) (0 : Int)) (List.getD b (Int.toNat (Int.ofNat x0)) (0 : Int))) then
            (Tree.leaf (SV.b false))
          else
            ((Tree.next 0 [(SV.rd ETy.u8 a), (SV.rd ETy.u8 b), (SV.b false), (SV.v (Value.int IntKind.i64 (IntKind.wrap IntKind.i64 ((Int.ofNat x0) + (1 : Int)))))] [])))
        else
          (Tree.fail))
      else
        (Tree.fail))
    else
      (Tree.leaf (SV.b true)))) := by kernel_rfl
theorem a_ref05_Same (a : List Int) (b : List Int) (ok_a : okBytes a) (ok_b : okBytes b) : (evFL E_ref05_Same (fun _ => some (L_ref05_Same a b)) 60 15 (encArgs [.rd .u8, .rd .u8] (a, b, ()))).ends fun out_ => decO [.b] out_ = some (decide (a = b)) := by
  rw [t_ref05_Same, Tree.ends_holds]
  simp only [Tree.holds_cond, Tree.holds_leaf, Tree.holds_loop]
  refine ⟨fun h => ?_, fun h => ?_⟩
  · have h : ¬ ((a.length : Int) = (b.length : Int)) := by simpa using h
    have : a ≠ b := fun e => h (by rw [e])
    simp [decO, decA, decTup, decMach, decCore, decTrap, decInstr, decPart, decGuest, decConf, decEvent, decVcpu, decStep, bytesS, boolS, eventsS, intsS, guestsS, vcpusS, rowS, castL, Option.bind_some, Option.map_some, Option.some.injEq, Nat.beq_refl, beq_self_eq_true, Bool.and_self, cond_true, cond_false, eq_self, this]
  have hl : (a.length : Int) = (b.length : Int) := by simpa using h
  have hl : a.length = b.length := by omega
  have hlim : a.length ≤ 140737488355328 := ok_a.1
  refine ⟨⟨(0 : Nat), rfl, rfl, ⟨Nat.zero_le _, rfl⟩, trivial⟩, fun (j : Nat) ⟨hj, he⟩ => ?_⟩
  simp only [Tree.holds_loop, Tree.holds_fork, Tree.holds_next, if_true, Tree.holds_cond, Tree.holds_letv, Tree.holds_leaf, Tree.holds_fail]
  refine ⟨fun h => ?_, fun h => ?_⟩
  · have hlt : j < a.length := by simpa using h
    have r1 : inRange (j : Int) a.length = true := inRange_iff.2 ⟨by omega, by omega⟩
    have r2 : inRange (j : Int) b.length = true := inRange_iff.2 ⟨by omega, by omega⟩
    have e2 : IntKind.i64.wrap ((j : Int) + 1) = ((j + 1 : Nat) : Int) := by rw [wrapI64 (by omega) (by omega)]; rfl
    have ga : a.getD j 0 = a[j] := by simp [hlt]
    have gb : b.getD j 0 = b[j]'(by omega) := by simp [show j < b.length by omega]
    simp only [Int.ofNat_eq_natCast, Int.toNat_natCast, r1, r2, ga, gb]
    simp only [true_implies, Bool.true_eq_false, false_implies, and_true]
    refine ⟨fun q => ?_, fun q => ?_⟩
    · have : a ≠ b := fun e => by subst e; simp at q
      simp [decO, decA, decTup, decMach, decCore, decTrap, decInstr, decPart, decGuest, decConf, decEvent, decVcpu, decStep, bytesS, boolS, eventsS, intsS, guestsS, vcpusS, rowS, castL, Option.bind_some, Option.map_some, Option.some.injEq, Nat.beq_refl, beq_self_eq_true, Bool.and_self, cond_true, cond_false, eq_self, this]
    · have q : a[j] = b[j]'(by omega) := by simpa using q
      refine ⟨j + 1, by rw [e2], rfl, ⟨by omega, ?_⟩, by show a.length - (j + 1) < a.length - j; omega⟩
      rw [List.take_succ_eq_append_getElem hlt, List.take_succ_eq_append_getElem (show j < b.length by omega), he, q]
  · have : j = a.length := by simp at h; omega
    subst this
    have : a = b := by rw [List.take_length] at he; rw [hl, List.take_length] at he; exact he
    simp [decO, decA, decTup, decMach, decCore, decTrap, decInstr, decPart, decGuest, decConf, decEvent, decVcpu, decStep, bytesS, boolS, eventsS, intsS, guestsS, vcpusS, rowS, castL, Option.bind_some, Option.map_some, Option.some.injEq, Nat.beq_refl, beq_self_eq_true, Bool.and_self, cond_true, cond_false, eq_self, this]
  
theorem c_ref05_Same : SpecOk EB 15 S_ref05_Same := spec_sigL ok_ref05_Same (n := 60) (fun (a, b, _) => fun _ => some (L_ref05_Same a b)) fun ⟨a, b, ⟨⟩⟩ h hok => a_ref05_Same a b (ok_bytes (okSL_head hok)) (ok_bytes (okSL_head (okSL_tail hok)))

/-! ref10_Same -/

def S_ref10_Same : Spec := sig [.mach, .mach] [.b] (fun (a, b, _) => decide (a = b))
noncomputable def E_ref10_Same : Env := EB.adds [(15, S_ref05_Same)]

theorem ok_ref10_Same : EnvOk E_ref10_Same := okEB.adds (l := _) ⟨c_ref05_Same, trivial⟩

theorem t_ref10_Same (a : PMach) (b : PMach) : evF E_ref10_Same 60 13 (encArgs [.mach, .mach] (a, b, ())) = 
  bif (Bool.and (decide (a.core.regs = b.core.regs)) (Bool.and (BEq.beq a.core.pc b.core.pc) (Bool.and (decide (a.core.csr = b.core.csr)) true))) then
    (Tree.letv (okO [AT.b]) (decide (a.mem = b.mem)) fun x0 =>
    (bif x0 then
      (bif (BEq.beq a.time b.time) then
        (Tree.letv (okO [AT.b]) (decide (a.out = b.out)) fun x1 =>
        (bif x1 then
          (bif a.halted then
            (bif b.halted then
              (Tree.leaf (SV.b true))
            else
              (Tree.leaf (SV.b false)))
          else
            (bif b.halted then
              (Tree.leaf (SV.b false))
            else
              (Tree.leaf (SV.b true))))
        else
          (Tree.leaf (SV.b false))))
      else
        (Tree.leaf (SV.b false)))
    else
      (Tree.leaf (SV.b false))))
  else
    (Tree.leaf (SV.b false)) := by kernel_rfl
theorem a_ref10_Same (a : PMach) (b : PMach) (ok_a : okMach a) (ok_b : okMach b) : (evF E_ref10_Same 60 13 (encArgs [.mach, .mach] (a, b, ()))).ends fun out_ => decO [.b] out_ = some (decide (a = b)) := by
  rw [t_ref10_Same, Tree.ends_holds]
  simp only [Tree.holds_loop, Tree.holds_fork, Tree.holds_next, if_true, Tree.holds_cond, Tree.holds_letv, Tree.holds_leaf, Tree.holds_fail, decO, decA, decTup, decMach, decCore, decTrap, decInstr, decPart, decGuest, decConf, decEvent, decVcpu, decStep, bytesS, boolS, eventsS, intsS, guestsS, vcpusS, rowS, castL, Option.bind_some, Option.map_some, Option.some.injEq, Nat.beq_refl, beq_self_eq_true, Bool.and_self, cond_true, cond_false, eq_self]
  have key : a = b ↔ (a.core.regs = b.core.regs ∧ a.core.pc = b.core.pc ∧ a.core.csr = b.core.csr ∧ a.mem = b.mem ∧ a.time = b.time ∧ a.out = b.out ∧ a.halted = b.halted) := by
    constructor
    · rintro rfl; simp
    · rintro ⟨h1, h2, h3, h4, h5, h6, h7⟩; exact mach_ext (core_ext h1 h2 h3) h4 h5 h6 h7
  simp only [key]
  repeat' (first | refine drop_ok ?_ | intro _ | with_reducible apply And.intro)
  all_goals simp_all
  
theorem c_ref10_Same : SpecOk EB 13 S_ref10_Same := spec_sig ok_ref10_Same (n := 60) fun ⟨a, b, ⟨⟩⟩ h hok => a_ref10_Same a b (ok_mach (okSL_head hok)) (ok_mach (okSL_head (okSL_tail hok)))

/-! law13_awake -/

def S_law13_awake : Spec := sig [] [.b] (fun _ => true)
noncomputable def E_law13_awake : Env := EB_0_1_2.adds [(12, S_step_Step), (17, S_step_StepNoTimer), (16, S_step_Current), (13, S_ref10_Same)]

theorem ok_law13_awake : EnvOk E_law13_awake := okEB_0_1_2.adds (l := _) ⟨c_step_Step, c_step_StepNoTimer, c_step_Current, (up_to_0_1_2 c_ref10_Same), trivial⟩
theorem t_c_law13_awake : (evF E_law13_awake 60 10 []).inst = .leaf (.b true) := by kernel_rfl
theorem c_law13_awake : SpecOk EB_0_1_2 10 S_law13_awake := spec_sig ok_law13_awake (n := 60) fun _ _ _ => Tree.of_inst (Q := .of _) (by
  show ((evF E_law13_awake 60 10 []).inst).holds _
  rw [t_c_law13_awake]; exact rfl)


/-! ref10_Few -/

def S_ref10_Few : Spec := sig [.mach] [.b] (fun (m, _) => K.few m)
noncomputable def E_ref10_Few : Env := EB.adds []

theorem ok_ref10_Few : EnvOk E_ref10_Few := okEB.adds (l := _) trivial

theorem t_ref10_Few (m : PMach) : evF E_ref10_Few 60 11 (encArgs [.mach] (m, ())) = 
  bif (decide ((Int.ofNat (List.length m.mem)) ≤ (600 : Int))) then
    (bif (decide ((Int.ofNat (List.length m.out)) ≤ (600 : Int))) then
      (Tree.leaf (SV.b true))
    else
      (Tree.leaf (SV.b false)))
  else
    (Tree.leaf (SV.b false)) := by kernel_rfl
theorem a_ref10_Few (m : PMach) (ok_m : okMach m) : (evF E_ref10_Few 60 11 (encArgs [.mach] (m, ()))).ends fun out_ => decO [.b] out_ = some (K.few m) := by
  rw [t_ref10_Few, Tree.ends_holds]
  simp only [Tree.holds_loop, Tree.holds_fork, Tree.holds_next, if_true, Tree.holds_cond, Tree.holds_letv, Tree.holds_leaf, Tree.holds_fail, decO, decA, decTup, decMach, decCore, decTrap, decInstr, decPart, decGuest, decConf, decEvent, decVcpu, decStep, bytesS, boolS, eventsS, intsS, guestsS, vcpusS, rowS, castL, Option.bind_some, Option.map_some, Option.some.injEq, Nat.beq_refl, beq_self_eq_true, Bool.and_self, cond_true, cond_false, eq_self, beq_iff_eq, beq_eq_false_iff_ne, bne_iff_ne, bne_eq_false_iff_eq, ne_eq, decide_eq_true_eq, decide_eq_false_iff_not, ble_true, ble_false, inRange_iff, inRange_false]
  repeat' (first | refine drop_ok ?_ | intro _ | with_reducible apply And.intro)
  all_goals (first | omega | (simp_all [K.few]; done) | (simp_all [K.few] <;> omega) | simp_all [K.few])
  
theorem c_ref10_Few : SpecOk EB 11 S_ref10_Few := spec_sig ok_ref10_Few (n := 60) fun ⟨m, ⟨⟩⟩ h hok => a_ref10_Few m (ok_mach (okSL_head hok))

/-! ref06_Super -/

def S_ref06_Super : Spec := sig [.core] [.b] (fun (c, _) => K.super c)
noncomputable def E_ref06_Super : Env := EB.adds []

theorem ok_ref06_Super : EnvOk E_ref06_Super := okEB.adds (l := _) trivial

theorem t_ref06_Super (c : PCore) : evF E_ref06_Super 60 14 (encArgs [.core] (c, ())) = 
  bif (BEq.beq (Int.tmod (List.getD c.csr 0 (0 : Int)) (2 : Int)) (1 : Int)) then
    (Tree.leaf (SV.b true))
  else
    (Tree.leaf (SV.b false)) := by kernel_rfl
theorem a_ref06_Super (c : PCore) (ok_c : okCore c) : (evF E_ref06_Super 60 14 (encArgs [.core] (c, ()))).ends fun out_ => decO [.b] out_ = some (K.super c) := by
  rw [t_ref06_Super, Tree.ends_holds]
  obtain ⟨s0, s1⟩ := ok_c.csr.u32 (i := 0) (by omega)
  simp only [Tree.holds_loop, Tree.holds_fork, Tree.holds_next, if_true, Tree.holds_cond, Tree.holds_letv, Tree.holds_leaf, Tree.holds_fail, decO, decA, decTup, decMach, decCore, decTrap, decInstr, decPart, decGuest, decConf, decEvent, decVcpu, decStep, bytesS, boolS, eventsS, intsS, guestsS, vcpusS, rowS, castL, Option.bind_some, Option.map_some, Option.some.injEq, Nat.beq_refl, beq_self_eq_true, Bool.and_self, cond_true, cond_false, eq_self, beq_iff_eq, beq_eq_false_iff_ne, bne_iff_ne, bne_eq_false_iff_eq, ne_eq, decide_eq_true_eq, decide_eq_false_iff_not, ble_true, ble_false, inRange_iff, inRange_false, K.super, Int.tmod_eq_emod_of_nonneg s0]
  repeat' (first | refine drop_ok ?_ | intro _ | with_reducible apply And.intro)
  all_goals simp_all
  
theorem c_ref06_Super : SpecOk EB 14 S_ref06_Super := spec_sig ok_ref06_Super (n := 60) fun ⟨c, ⟨⟩⟩ h hok => a_ref06_Super c (ok_core (okSL_head hok))

/-! law13_StepUserModeConfinement -/
-- v2
def K.insC (m : PMach) (i : Nat) : Bool := decide (m.core.csr.getD 5 0 ≤ (i : Int)) && decide ((i : Int) < m.core.csr.getD 5 0 + m.core.csr.getD 6 0)
def K.insL (m : PMach) (k : Nat) : List Bool := (List.range m.mem.length).map fun i => decide (i < k) && K.insC m i
def K.othL (m : PMach) (other : List Int) (k : Nat) : List Int := (List.range m.mem.length).map fun i => if i < k ∧ K.insC m i = false ∧ i < other.length then other.getD i 0 else m.mem.getD i 0
@[reducible] def L_conf1 (m : PMach) (other : List Int) : LoopSpec where
  σ := Nat
  slots := [1, 2, 5, 6, 7, 8, 9, 51]
  keys := [2, 7, 8, 51]
  vals := fun i => [.rd .u8 other, .loc 0 0 0 1, .v (.int .i64 (m.core.csr.getD 5 0)), .v (.int .i64 (m.core.csr.getD 6 0)), .own 1, .loc 2 0 0 1, .v (.int .i64 (i : Int)), .own 3]
  blks := fun i => [.cells (machC m) 30, .row .bool (K.insL m i) 4, .cells [.arr .u32 16 m.core.regs, svI .u32 m.core.pc, .arr .u32 12 m.core.csr, .own 3, svI .u64 m.time, .rd .u8 m.out, svB m.halted] 30, .row .u8 (K.othL m other i) 5]
  inv := fun i => i ≤ m.mem.length
  mu := fun i => m.mem.length - i
def K.othM (m : PMach) (other : List Int) : PMach := { m with mem := K.othL m other m.mem.length }
@[reducible] def L_conf2 (m : PMach) (other : List Int) : LoopSpec where
  σ := Nat
  slots := [2, 7, 8, 10, 12, 14, 51]
  keys := [2, 7, 8, 10, 12, 51]
  vals := fun i => [.loc 0 0 0 1, .own 1, .loc 2 0 0 1, .loc 3 0 0 1, .loc 4 0 0 1, .v (.int .i64 (i : Int)), .own 5]
  blks := fun i => [.cells (machC m) 30, .row .bool (K.insL m m.mem.length) 4, .cells [.arr .u32 16 m.core.regs, svI .u32 m.core.pc, .arr .u32 12 m.core.csr, .own 5, svI .u64 m.time, .rd .u8 m.out, svB m.halted] 30,
    .cells (machC (K.step m).1) 30, .cells (machC (K.step (K.othM m other)).1) 30, .frow .u8 (K.othL m other m.mem.length)]
  inv := fun i => i ≤ m.mem.length
  mu := fun i => m.mem.length - i
theorem insL_len (m : PMach) (k : Nat) : (K.insL m k).length = m.mem.length := by simp [K.insL]
theorem othL_len (m : PMach) (other : List Int) (k : Nat) : (K.othL m other k).length = m.mem.length := by simp [K.othL]
theorem insL_at {m : PMach} {k i : Nat} (h : i < m.mem.length) : (K.insL m k).getD i false = (decide (i < k) && K.insC m i) := by
  unfold K.insL
  rw [List.getD_eq_getElem?_getD, List.getElem?_map, List.getElem?_range h]; rfl
theorem othL_at {m : PMach} {other : List Int} {k i : Nat} (h : i < m.mem.length) : (K.othL m other k).getD i 0 = if i < k ∧ K.insC m i = false ∧ i < other.length then other.getD i 0 else m.mem.getD i 0 := by
  unfold K.othL
  rw [List.getD_eq_getElem?_getD, List.getElem?_map, List.getElem?_range h]; rfl
theorem insL_set {m : PMach} {i : Nat} {q : Bool} (hq : q = K.insC m i) : (K.insL m i).set i q = K.insL m (i + 1) := by
  subst hq
  unfold K.insL
  apply List.ext_getElem?
  intro j
  by_cases hj : j < m.mem.length
  · by_cases h : i = j
    · subst h
      rw [List.getElem?_set_self (by simpa using hj), List.getElem?_map, List.getElem?_range hj]; simp
    · rw [List.getElem?_set_ne h, List.getElem?_map, List.getElem?_map, List.getElem?_range hj]
      have : (j < i) ↔ (j < i + 1) := by omega
      simp [this]
  · rw [List.getElem?_eq_none (by simpa using hj), List.getElem?_eq_none (by simpa using hj)]
theorem othL_set {m : PMach} {other : List Int} {i : Nat} (h1 : K.insC m i = false) (h2 : i < other.length) : (K.othL m other i).set i (other.getD i 0) = K.othL m other (i + 1) := by
  unfold K.othL
  apply List.ext_getElem?
  intro j
  by_cases hj : j < m.mem.length
  · by_cases h : i = j
    · subst h
      rw [List.getElem?_set_self (by simpa using hj), List.getElem?_map, List.getElem?_range hj]; simp [h1, h2]
    · rw [List.getElem?_set_ne h, List.getElem?_map, List.getElem?_map, List.getElem?_range hj]
      have : (j < i) ↔ (j < i + 1) := by omega
      simp [this]
  · rw [List.getElem?_eq_none (by simpa using hj), List.getElem?_eq_none (by simpa using hj)]
theorem othL_same {m : PMach} {other : List Int} {i : Nat} (h : K.insC m i = true ∨ other.length ≤ i) : K.othL m other i = K.othL m other (i + 1) := by
  unfold K.othL
  apply List.map_congr_left
  intro j _
  by_cases hj : i = j
  · subst hj
    rcases h with h | h
    · simp [h]
    · rw [if_neg (by omega), if_neg (by omega)]
  · have : (j < i) ↔ (j < i + 1) := by omega
    simp [this]
theorem insL_zero (m : PMach) : List.replicate m.mem.length false = K.insL m 0 := by
  unfold K.insL
  apply List.ext_getElem?
  intro j
  by_cases hj : j < m.mem.length
  · rw [List.getElem?_replicate, if_pos hj, List.getElem?_map, List.getElem?_range hj]; simp
  · rw [List.getElem?_eq_none (by simpa using hj), List.getElem?_eq_none (by simpa using hj)]
theorem othL_zero (m : PMach) (other : List Int) : m.mem = K.othL m other 0 := by
  apply List.ext_getElem?
  intro j
  by_cases hj : j < m.mem.length
  · unfold K.othL
    rw [List.getElem?_map, List.getElem?_range hj]; simp [hj]
  · rw [List.getElem?_eq_none (by omega), List.getElem?_eq_none (by rw [othL_len]; omega)]
theorem conf_next1 {m : PMach} {other : List Int} {i : Nat} {v : Int} {A : List Bool} {B : List Int} (h : i < m.mem.length) (hv : v = ((i + 1 : Nat) : Int)) (hA : A = K.insL m (i + 1)) (hB : B = K.othL m other (i + 1)) : (L_conf1 m other).at (fun y => (L_conf1 m other).mu y < (L_conf1 m other).mu i)
    [.rd .u8 other, .loc 0 0 0 1, .v (.int .i64 (m.core.csr.getD 5 0)), .v (.int .i64 (m.core.csr.getD 6 0)), .own 1, .loc 2 0 0 1, .v (.int .i64 v), .own 3]
    [.cells [.arr .u32 16 m.core.regs, .v (.int .u32 m.core.pc), .arr .u32 12 m.core.csr, .rd .u8 m.mem, .v (.int .u64 m.time), .rd .u8 m.out, .v (.bool m.halted)] 30, .row .bool A 4, .cells [.arr .u32 16 m.core.regs, .v (.int .u32 m.core.pc), .arr .u32 12 m.core.csr, .own 3, .v (.int .u64 m.time), .rd .u8 m.out, .v (.bool m.halted)] 30, .row .u8 B 5] := by
  subst hv; subst hA; subst hB
  exact ⟨i + 1, rfl, rfl, (by show i + 1 ≤ _; omega), (by show m.mem.length - (i + 1) < m.mem.length - i; omega)⟩
theorem conf_start1 {m : PMach} {other : List Int} {A : List Bool} (hA : A = K.insL m 0) : (L_conf1 m other).at (fun _ => True)
    [.rd .u8 other, .loc 0 0 0 1, .v (.int .i64 (m.core.csr.getD 5 0)), .v (.int .i64 (m.core.csr.getD 6 0)), .own 1, .loc 2 0 0 1, .v (.int .i64 0), .own 3]
    [.cells [.arr .u32 16 m.core.regs, .v (.int .u32 m.core.pc), .arr .u32 12 m.core.csr, .rd .u8 m.mem, .v (.int .u64 m.time), .rd .u8 m.out, .v (.bool m.halted)] 30, .row .bool A 4, .cells [.arr .u32 16 m.core.regs, .v (.int .u32 m.core.pc), .arr .u32 12 m.core.csr, .own 3, .v (.int .u64 m.time), .rd .u8 m.out, .v (.bool m.halted)] 30, .row .u8 m.mem 5] := by
  subst hA
  refine ⟨(0 : Nat), rfl, ?_, Nat.zero_le _, trivial⟩
  show _ = (L_conf1 m other).blks (0 : Nat)
  unfold L_conf1
  simp only
  rw [← othL_zero]
  rfl
theorem conf_2 {m : PMach} {other : List Int} {P : Nat → Prop} {k : Nat} {v : Int} {x y : PMach} {i : Nat} (hk : k = m.mem.length) (hx : x = (K.step m).1) (hy : y = (K.step (K.othM m other)).1) (hv : v = (i : Int)) (hi : i ≤ m.mem.length) (hP : P i) : (L_conf2 m other).at P
    [.loc 0 0 0 1, .own 1, .loc 2 0 0 1, .loc 3 0 0 1, .loc 4 0 0 1, .v (.int .i64 v), .own 5]
    [.cells [.arr .u32 16 m.core.regs, .v (.int .u32 m.core.pc), .arr .u32 12 m.core.csr, .rd .u8 m.mem, .v (.int .u64 m.time), .rd .u8 m.out, .v (.bool m.halted)] 30, .row .bool (K.insL m k) 4, .cells [.arr .u32 16 m.core.regs, .v (.int .u32 m.core.pc), .arr .u32 12 m.core.csr, .own 5, .v (.int .u64 m.time), .rd .u8 m.out, .v (.bool m.halted)] 30,
     .cells [.arr .u32 16 x.core.regs, .v (.int .u32 x.core.pc), .arr .u32 12 x.core.csr, .rd .u8 x.mem, .v (.int .u64 x.time), .rd .u8 x.out, .v (.bool x.halted)] 30, .cells [.arr .u32 16 y.core.regs, .v (.int .u32 y.core.pc), .arr .u32 12 y.core.csr, .rd .u8 y.mem, .v (.int .u64 y.time), .rd .u8 y.out, .v (.bool y.halted)] 30, .frow .u8 (K.othL m other k)] := by
  subst hv; subst hx; subst hy; subst hk
  exact ⟨i, rfl, rfl, hi, hP⟩
def S_law13_StepUserModeConfinement : Spec := sig [.mach, .rd .u8] [.b] (fun (m, other, _) => true)
noncomputable def E_law13_StepUserModeConfinement : Env := EB_0_1_2.adds [(10, S_law13_awake), (11, S_ref10_Few), (12, S_step_Step), (14, S_ref06_Super)]

theorem ok_law13_StepUserModeConfinement : EnvOk E_law13_StepUserModeConfinement := okEB_0_1_2.adds (l := _) ⟨c_law13_awake, (up_to_0_1_2 c_ref10_Few), c_step_Step, (up_to_0_1_2 c_ref06_Super), trivial⟩

theorem t_law13_StepUserModeConfinement (m : PMach) (other : List Int) : evFL E_law13_StepUserModeConfinement (fun b => if b = 0 then some (L_conf1 m other) else if b = 2 then some (L_conf2 m other) else none) 60 5 (encArgs [.mach, .rd .u8] (m, other, ())) = 
  Tree.letv (okO [AT.b]) true fun x0 =>
  (bif x0 then
    (Tree.letv (okO [AT.b]) (K.few m) fun x1 =>
    (bif x1 then
      (Tree.letv (okO [AT.b]) (K.super m.core) fun x2 =>
      (bif x2 then
        (Tree.letv (okO [AT.b]) true fun x3 =>
        (bif x3 then
          (Tree.leaf (SV.b true))
        else
          (Tree.leaf (SV.b false))))
      else
        (bif (decide ((Int.ofNat (List.length other)) > (600 : Int))) then
          (Tree.letv (okO [AT.b]) true fun x3 =>
          (bif x3 then
            (Tree.leaf (SV.b true))
          else
            (Tree.leaf (SV.b false))))
        else
          (bif (Bool.and (decide ((0 : Int) ≤ (Int.ofNat (List.length m.mem)))) (Bool.and (decide ((Int.ofNat (List.length m.mem)) = (Int.ofNat (List.length m.mem)))) (decide (((Int.ofNat (List.length m.mem)) * (1 : Int)) ≤ (140737488355328 : Int))))) then
            (bif (Bool.or (Bool.not (Nat.beq (List.length m.mem) 0)) true) then
              (bif (Nat.ble ((0 + (List.length m.mem)) * 1) 140737488355328) then
                (Tree.loop 0 (L_conf1 m other) [(SV.rd ETy.u8 other), (SV.loc 0 0 0 1), (SV.v (Value.int IntKind.i64 (IntKind.wrap IntKind.i64 (List.getD m.core.csr 5 (0 : Int))))), (SV.v (Value.int IntKind.i64 (IntKind.wrap IntKind.i64 (List.getD m.core.csr 6 (0 : Int))))), (SV.own 1), (SV.loc 2 0 0 1), (SV.v (Value.int IntKind.i64 (0 : Int))), (SV.own 3)] [(Blk.cells [(SV.arr IntKind.u32 16 m.core.regs), (SV.v (Value.int IntKind.u32 m.core.pc)), (SV.arr IntKind.u32 12 m.core.csr), (SV.rd ETy.u8 m.mem), (SV.v (Value.int IntKind.u64 m.time)), (SV.rd ETy.u8 m.out), (SV.v (Value.bool m.halted))] 30), (Blk.row ETy.bool (List.replicate (Int.toNat (Int.ofNat (List.length m.mem))) false) 4), (Blk.cells [(SV.arr IntKind.u32 16 m.core.regs), (SV.v (Value.int IntKind.u32 m.core.pc)), (SV.arr IntKind.u32 12 m.core.csr), (SV.own 3), (SV.v (Value.int IntKind.u64 m.time)), (SV.rd ETy.u8 m.out), (SV.v (Value.bool m.halted))] 30), (Blk.row ETy.u8 m.mem 5)] fun (x3 : Nat) =>
                (bif (decide ((Int.ofNat x3) < (Int.ofNat (List.length m.mem)))) then
                  (bif (decide ((Int.ofNat x3) ≥ (List.getD m.core.csr 5 (0 : Int)))) then
                    (bif (decide ((Int.ofNat x3) < (IntKind.wrap IntKind.i64 ((List.getD m.core.csr 5 (0 : Int)) + (List.getD m.core.csr 6 (0 : Int)))))) then
                      (bif (inRange (Int.ofNat x3) (List.length (K.insL m x3))) then
                        (bif (inRange (Int.ofNat x3) (List.length (List.set (K.insL m x3) (Int.toNat (Int.ofNat x3)) true))) then
                          (bif (List.getD (List.set (K.insL m x3) (Int.toNat (Int.ofNat x3)) true) (Int.toNat (Int.ofNat x3)) false) then
                            ((Tree.next 0 [(SV.rd ETy.u8 other), (SV.loc 0 0 0 1), (SV.v (Value.int IntKind.i64 (List.getD m.core.csr 5 (0 : Int)))), (SV.v (Value.int IntKind.i64 (List.getD m.core.csr 6 (0 : Int)))), (SV.own 1), (SV.loc 2 0 0 1), (SV.v (Value.int IntKind.i64 (IntKind.wrap IntKind.i64 ((Int.ofNat x3) + (1 : Int))))), (SV.own 3)] [(Blk.cells [(SV.arr IntKind.u32 16 m.core.regs), (SV.v (Value.int IntKind.u32 m.core.pc)), (SV.arr IntKind.u32 12 m.core.csr), (SV.rd ETy.u8 m.mem), (SV.v (Value.int IntKind.u64 m.time)), (SV.rd ETy.u8 m.out), (SV.v (Value.bool m.halted))] 30), (Blk.row ETy.bool (List.set (K.insL m x3) (Int.toNat (Int.ofNat x3)) true) 4), (Blk.cells [(SV.arr IntKind.u32 16 m.core.regs), (SV.v (Value.int IntKind.u32 m.core.pc)), (SV.arr IntKind.u32 12 m.core.csr), (SV.own 3), (SV.v (Value.int IntKind.u64 m.time)), (SV.rd ETy.u8 m.out), (SV.v (Value.bool m.halted))] 30), (Blk.row ETy.u8 (K.othL m other x3) 5)]))
                          else
                            (bif (decide ((Int.ofNat x3) < (Int.ofNat (List.length other)))) then
                              (bif (inRange (Int.ofNat x3) (List.length other)) then
                                (bif (inRange (Int.ofNat x3) (List.length (K.othL m other x3))) then
                                  ((Tree.next 0 [(SV.rd ETy.u8 other), (SV.loc 0 0 0 1), (SV.v (Value.int IntKind.i64 (List.getD m.core.csr 5 (0 : Int)))), (SV.v (Value.int IntKind.i64 (List.getD m.core.csr 6 (0 : Int)))), (SV.own 1), (SV.loc 2 0 0 1), (SV.v (Value.int IntKind.i64 (IntKind.wrap IntKind.i64 ((Int.ofNat x3) + (1 : Int))))), (SV.own 3)] [(Blk.cells [(SV.arr IntKind.u32 16 m.core.regs), (SV.v (Value.int IntKind.u32 m.core.pc)), (SV.arr IntKind.u32 12 m.core.csr), (SV.rd ETy.u8 m.mem), (SV.v (Value.int IntKind.u64 m.time)), (SV.rd ETy.u8 m.out), (SV.v (Value.bool m.halted))] 30), (Blk.row ETy.bool (List.set (K.insL m x3) (Int.toNat (Int.ofNat x3)) true) 4), (Blk.cells [(SV.arr IntKind.u32 16 m.core.regs), (SV.v (Value.int IntKind.u32 m.core.pc)), (SV.arr IntKind.u32 12 m.core.csr), (SV.own 3), (SV.v (Value.int IntKind.u64 m.time)), (SV.rd ETy.u8 m.out), (SV.v (Value.bool m.halted))] 30), (Blk.row ETy.u8 (List.set (K.othL m other x3) (Int.toNat (Int.ofNat x3)) (List.getD other (Int.toNat (Int.ofNat x3)) (0 : Int))) 5)]))
                                else
                                  (Tree.fail))
                              else
                                (Tree.fail))
                            else
                              ((Tree.next 0 [(SV.rd ETy.u8 other), (SV.loc 0 0 0 1), (SV.v (Value.int IntKind.i64 (List.getD m.core.csr 5 (0 : Int)))), (SV.v (Value.int IntKind.i64 (List.getD m.core.csr 6 (0 : Int)))), (SV.own 1), (SV.loc 2 0 0 1), (SV.v (Value.int IntKind.i64 (IntKind.wrap IntKind.i64 ((Int.ofNat x3) + (1 : Int))))), (SV.own 3)] [(Blk.cells [(SV.arr IntKind.u32 16 m.core.regs), (SV.v (Value.int IntKind.u32 m.core.pc)), (SV.arr IntKind.u32 12 m.core.csr), (SV.rd ETy.u8 m.mem), (SV.v (Value.int IntKind.u64 m.time)), (SV.rd ETy.u8 m.out), (SV.v (Value.bool m.halted))] 30), (Blk.row ETy.bool (List.set (K.insL m x3) (Int.toNat (Int.ofNat x3)) true) 4), (Blk.cells [(SV.arr IntKind.u32 16 m.core.regs), (SV.v (Value.int IntKind.u32 m.core.pc)), (SV.arr IntKind.u32 12 m.core.csr), (SV.own 3), (SV.v (Value.int IntKind.u64 m.time)), (SV.rd ETy.u8 m.out), (SV.v (Value.bool m.halted))] 30), (Blk.row ETy.u8 (K.othL m other x3) 5)]))))
                        else
                          (Tree.fail))
                      else
                        (Tree.fail))
                    else
                      (bif (inRange (Int.ofNat x3) (List.length (K.insL m x3))) then
                        (bif (inRange (Int.ofNat x3) (List.length (List.set (K.insL m x3) (Int.toNat (Int.ofNat x3)) false))) then
                          (bif (List.getD (List.set (K.insL m x3) (Int.toNat (Int.ofNat x3)) false) (Int.toNat (Int.ofNat x3)) false) then
                            ((Tree.next 0 [(SV.rd ETy.u8 other), (SV.loc 0 0 0 1), (SV.v (Value.int IntKind.i64 (List.getD m.core.csr 5 (0 : Int)))), (SV.v (Value.int IntKind.i64 (List.getD m.core.csr 6 (0 : Int)))), (SV.own 1), (SV.loc 2 0 0 1), (SV.v (Value.int IntKind.i64 (IntKind.wrap IntKind.i64 ((Int.ofNat x3) + (1 : Int))))), (SV.own 3)] [(Blk.cells [(SV.arr IntKind.u32 16 m.core.regs), (SV.v (Value.int IntKind.u32 m.core.pc)), (SV.arr IntKind.u32 12 m.core.csr), (SV.rd ETy.u8 m.mem), (SV.v (Value.int IntKind.u64 m.time)), (SV.rd ETy.u8 m.out), (SV.v (Value.bool m.halted))] 30), (Blk.row ETy.bool (List.set (K.insL m x3) (Int.toNat (Int.ofNat x3)) false) 4), (Blk.cells [(SV.arr IntKind.u32 16 m.core.regs), (SV.v (Value.int IntKind.u32 m.core.pc)), (SV.arr IntKind.u32 12 m.core.csr), (SV.own 3), (SV.v (Value.int IntKind.u64 m.time)), (SV.rd ETy.u8 m.out), (SV.v (Value.bool m.halted))] 30), (Blk.row ETy.u8 (K.othL m other x3) 5)]))
                          else
                            (bif (decide ((Int.ofNat x3) < (Int.ofNat (List.length other)))) then
                              (bif (inRange (Int.ofNat x3) (List.length other)) then
                                (bif (inRange (Int.ofNat x3) (List.length (K.othL m other x3))) then
                                  ((Tree.next 0 [(SV.rd ETy.u8 other), (SV.loc 0 0 0 1), (SV.v (Value.int IntKind.i64 (List.getD m.core.csr 5 (0 : Int)))), (SV.v (Value.int IntKind.i64 (List.getD m.core.csr 6 (0 : Int)))), (SV.own 1), (SV.loc 2 0 0 1), (SV.v (Value.int IntKind.i64 (IntKind.wrap IntKind.i64 ((Int.ofNat x3) + (1 : Int))))), (SV.own 3)] [(Blk.cells [(SV.arr IntKind.u32 16 m.core.regs), (SV.v (Value.int IntKind.u32 m.core.pc)), (SV.arr IntKind.u32 12 m.core.csr), (SV.rd ETy.u8 m.mem), (SV.v (Value.int IntKind.u64 m.time)), (SV.rd ETy.u8 m.out), (SV.v (Value.bool m.halted))] 30), (Blk.row ETy.bool (List.set (K.insL m x3) (Int.toNat (Int.ofNat x3)) false) 4), (Blk.cells [(SV.arr IntKind.u32 16 m.core.regs), (SV.v (Value.int IntKind.u32 m.core.pc)), (SV.arr IntKind.u32 12 m.core.csr), (SV.own 3), (SV.v (Value.int IntKind.u64 m.time)), (SV.rd ETy.u8 m.out), (SV.v (Value.bool m.halted))] 30), (Blk.row ETy.u8 (List.set (K.othL m other x3) (Int.toNat (Int.ofNat x3)) (List.getD other (Int.toNat (Int.ofNat x3)) (0 : Int))) 5)]))
                                else
                                  (Tree.fail))
                              else
                                (Tree.fail))
                            else
                              ((Tree.next 0 [(SV.rd ETy.u8 other), (SV.loc 0 0 0 1), (SV.v (Value.int IntKind.i64 (List.getD m.core.csr 5 (0 : Int)))), (SV.v (Value.int IntKind.i64 (List.getD m.core.csr 6 (0 : Int)))), (SV.own 1), (SV.loc 2 0 0 1), (SV.v (Value.int IntKind.i64 (IntKind.wrap IntKind.i64 ((Int.ofNat x3) + (1 : Int))))), (SV.own 3)] [(Blk.cells [(SV.arr IntKind.u32 16 m.core.regs), (SV.v (Value.int IntKind.u32 m.core.pc)), (SV.arr IntKind.u32 12 m.core.csr), (SV.rd ETy.u8 m.mem), (SV.v (Value.int IntKind.u64 m.time)), (SV.rd ETy.u8 m.out), (SV.v (Value.bool m.halted))] 30), (Blk.row ETy.bool (List.set (K.insL m x3) (Int.toNat (Int.ofNat x3)) false) 4), (Blk.cells [(SV.arr IntKind.u32 16 m.core.regs), (SV.v (Value.int IntKind.u32 m.core.pc)), (SV.arr IntKind.u32 12 m.core.csr), (SV.own 3), (SV.v (Value.int IntKind.u64 m.time)), (SV.rd ETy.u8 m.out), (SV.v (Value.bool m.halted))] 30), (Blk.row ETy.u8 (K.othL m other x3) 5)]))))
                        else
                          (Tree.fail))
                      else
                        (Tree.fail)))
                  else
                    (bif (inRange (Int.ofNat x3) (List.length (K.insL m x3))) then
                      (bif (inRange (Int.ofNat x3) (List.length (List.set (K.insL m x3) (Int.toNat (Int.ofNat x3)) false))) then
                        (bif (List.getD (List.set (K.insL m x3) (Int.toNat (Int.ofNat x3)) false) (Int.toNat (Int.ofNat x3)) false) then
                          ((Tree.next 0 [(SV.rd ETy.u8 other), (SV.loc 0 0 0 1), (SV.v (Value.int IntKind.i64 (List.getD m.core.csr 5 (0 : Int)))), (SV.v (Value.int IntKind.i64 (List.getD m.core.csr 6 (0 : Int)))), (SV.own 1), (SV.loc 2 0 0 1), (SV.v (Value.int IntKind.i64 (IntKind.wrap IntKind.i64 ((Int.ofNat x3) + (1 : Int))))), (SV.own 3)] [(Blk.cells [(SV.arr IntKind.u32 16 m.core.regs), (SV.v (Value.int IntKind.u32 m.core.pc)), (SV.arr IntKind.u32 12 m.core.csr), (SV.rd ETy.u8 m.mem), (SV.v (Value.int IntKind.u64 m.time)), (SV.rd ETy.u8 m.out), (SV.v (Value.bool m.halted))] 30), (Blk.row ETy.bool (List.set (K.insL m x3) (Int.toNat (Int.ofNat x3)) false) 4), (Blk.cells [(SV.arr IntKind.u32 16 m.core.regs), (SV.v (Value.int IntKind.u32 m.core.pc)), (SV.arr IntKind.u32 12 m.core.csr), (SV.own 3), (SV.v (Value.int IntKind.u64 m.time)), (SV.rd ETy.u8 m.out), (SV.v (Value.bool m.halted))] 30), (Blk.row ETy.u8 (K.othL m other x3) 5)]))
                        else
                          (bif (decide ((Int.ofNat x3) < (Int.ofNat (List.length other)))) then
                            (bif (inRange (Int.ofNat x3) (List.length other)) then
                              (bif (inRange (Int.ofNat x3) (List.length (K.othL m other x3))) then
                                ((Tree.next 0 [(SV.rd ETy.u8 other), (SV.loc 0 0 0 1), (SV.v (Value.int IntKind.i64 (List.getD m.core.csr 5 (0 : Int)))), (SV.v (Value.int IntKind.i64 (List.getD m.core.csr 6 (0 : Int)))), (SV.own 1), (SV.loc 2 0 0 1), (SV.v (Value.int IntKind.i64 (IntKind.wrap IntKind.i64 ((Int.ofNat x3) + (1 : Int))))), (SV.own 3)] [(Blk.cells [(SV.arr IntKind.u32 16 m.core.regs), (SV.v (Value.int IntKind.u32 m.core.pc)), (SV.arr IntKind.u32 12 m.core.csr), (SV.rd ETy.u8 m.mem), (SV.v (Value.int IntKind.u64 m.time)), (SV.rd ETy.u8 m.out), (SV.v (Value.bool m.halted))] 30), (Blk.row ETy.bool (List.set (K.insL m x3) (Int.toNat (Int.ofNat x3)) false) 4), (Blk.cells [(SV.arr IntKind.u32 16 m.core.regs), (SV.v (Value.int IntKind.u32 m.core.pc)), (SV.arr IntKind.u32 12 m.core.csr), (SV.own 3), (SV.v (Value.int IntKind.u64 m.time)), (SV.rd ETy.u8 m.out), (SV.v (Value.bool m.halted))] 30), (Blk.row ETy.u8 (List.set (K.othL m other x3) (Int.toNat (Int.ofNat x3)) (List.getD other (Int.toNat (Int.ofNat x3)) (0 : Int))) 5)]))
                              else
                                (Tree.fail))
                            else
                              (Tree.fail))
                          else
                            ((Tree.next 0 [(SV.rd ETy.u8 other), (SV.loc 0 0 0 1), (SV.v (Value.int IntKind.i64 (List.getD m.core.csr 5 (0 : Int)))), (SV.v (Value.int IntKind.i64 (List.getD m.core.csr 6 (0 : Int)))), (SV.own 1), (SV.loc 2 0 0 1), (SV.v (Value.int IntKind.i64 (IntKind.wrap IntKind.i64 ((Int.ofNat x3) + (1 : Int))))), (SV.own 3)] [(Blk.cells [(SV.arr IntKind.u32 16 m.core.regs), (SV.v (Value.int IntKind.u32 m.core.pc)), (SV.arr IntKind.u32 12 m.core.csr), (SV.rd ETy.u8 m.mem), (SV.v (Value.int IntKind.u64 m.time)), (SV.rd ETy.u8 m.out), (SV.v (Value.bool m.halted))] 30), (Blk.row ETy.bool (List.set (K.insL m x3) (Int.toNat (Int.ofNat x3)) false) 4), (Blk.cells [(SV.arr IntKind.u32 16 m.core.regs), (SV.v (Value.int IntKind.u32 m.core.pc)), (SV.arr IntKind.u32 12 m.core.csr), (SV.own 3), (SV.v (Value.int IntKind.u64 m.time)), (SV.rd ETy.u8 m.out), (SV.v (Value.bool m.halted))] 30), (Blk.row ETy.u8 (K.othL m other x3) 5)]))))
                      else
                        (Tree.fail))
                    else
                      (Tree.fail)))
                else
                  (bif (decide (And ((List.length m.mem) ≤ 1099511627776) ((List.length m.out) ≤ 1099511627776))) then
                    (Tree.letv (okO [AT.mach, AT.trap]) (K.step m) fun x4 =>
                    (bif (decide (And ((List.length (K.othL m other x3)) ≤ 1099511627776) ((List.length m.out) ≤ 1099511627776))) then
                      (Tree.letv (okO [AT.mach, AT.trap]) (K.step (PMach.mk m.core (K.othL m other x3) m.time m.out m.halted)) fun x5 =>
                      (bif (Bool.not (Bool.and (BEq.beq x4.snd.cause x5.snd.cause) (Bool.and (BEq.beq x4.snd.tval x5.snd.tval) true))) then
                        (Tree.leaf (SV.b false))
                      else
                        (bif (Bool.not (Bool.and (decide (x4.fst.core.regs = x5.fst.core.regs)) (Bool.and (BEq.beq x4.fst.core.pc x5.fst.core.pc) (Bool.and (decide (x4.fst.core.csr = x5.fst.core.csr)) true)))) then
                          (Tree.leaf (SV.b false))
                        else
                          (bif (bne x4.fst.time x5.fst.time) then
                            (Tree.leaf (SV.b false))
                          else
                            (bif x4.fst.halted then
                              (bif x5.fst.halted then
                                (bif (bne (Int.ofNat (List.length x4.fst.mem)) (Int.ofNat (List.length m.mem))) then
                                  (Tree.leaf (SV.b false))
                                else
                                  (bif (bne (Int.ofNat (List.length x5.fst.mem)) (Int.ofNat (List.length m.mem))) then
                                    (Tree.leaf (SV.b false))
                                  else
                                    (Tree.loop 2 (L_conf2 m other) [(SV.loc 0 0 0 1), (SV.own 1), (SV.loc 2 0 0 1), (SV.loc 3 0 0 1), (SV.loc 4 0 0 1), (SV.v (Value.int IntKind.i64 (0 : Int))), (SV.own 5)] [(Blk.cells [(SV.arr IntKind.u32 16 m.core.regs), (SV.v (Value.int IntKind.u32 m.core.pc)), (SV.arr IntKind.u32 12 m.core.csr), (SV.rd ETy.u8 m.mem), (SV.v (Value.int IntKind.u64 m.time)), (SV.rd ETy.u8 m.out), (SV.v (Value.bool m.halted))] 30), (Blk.row ETy.bool (K.insL m x3) 4), (Blk.cells [(SV.arr IntKind.u32 16 m.core.regs), (SV.v (Value.int IntKind.u32 m.core.pc)), (SV.arr IntKind.u32 12 m.core.csr), (SV.own 5), (SV.v (Value.int IntKind.u64 m.time)), (SV.rd ETy.u8 m.out), (SV.v (Value.bool m.halted))] 30), (Blk.cells [(SV.arr IntKind.u32 16 x4.fst.core.regs), (SV.v (Value.int IntKind.u32 x4.fst.core.pc)), (SV.arr IntKind.u32 12 x4.fst.core.csr), (SV.rd ETy.u8 x4.fst.mem), (SV.v (Value.int IntKind.u64 x4.fst.time)), (SV.rd ETy.u8 x4.fst.out), (SV.v (Value.bool x4.fst.halted))] 30), (Blk.cells [(SV.arr IntKind.u32 16 x5.fst.core.regs), (SV.v (Value.int IntKind.u32 x5.fst.core.pc)), (SV.arr IntKind.u32 12 x5.fst.core.csr), (SV.rd ETy.u8 x5.fst.mem), (SV.v (Value.int IntKind.u64 x5.fst.time)), (SV.rd ETy.u8 x5.fst.out), (SV.v (Value.bool x5.fst.halted))] 30), (Blk.frow ETy.u8 (K.othL m other x3))] fun (x6 : Nat) =>
                                    (bif (decide ((Int.ofNat x6) < (Int.ofNat (List.length m.mem)))) then
                                      (bif (inRange (Int.ofNat x6) (List.length (K.insL m (List.length m.mem)))) then
                                        (bif (List.getD (K.insL m (List.length m.mem)) (Int.toNat (Int.ofNat x6)) false) then
                                          (bif (inRange (Int.ofNat x6) (List.length (K.step m).fst.mem)) then
                                            (bif (inRange (Int.ofNat x6) (List.length (K.step (K.othM m other)).fst.mem)) then
                                              (bif (bne (List.getD (K.step m).fst.mem (Int.toNat (Int.ofNat x6)) (0 : Int)) (List.getD (K.step (K.othM m other)).fst.mem (Int.toNat (Int.ofNat x6)) (0 : Int))) then
                                                (Tree.leaf (SV.b false))
                                              else
                                                (bif (inRange (Int.ofNat x6) (List.length (K.insL m (List.length m.mem)))) then
                                                  (bif (List.getD (K.insL m (List.length m.mem)) (Int.toNat (Int.ofNat x6)) false) then
                                                    ((Tree.next 2 [(SV.loc 0 0 0 1), (SV.own 1), (SV.loc 2 0 0 1), (SV.loc 3 0 0 1), (SV.loc 4 0 0 1), (SV.v (Value.int IntKind.i64 (IntKind.wrap IntKind.i64 ((Int.ofNat x6) + (1 : Int))))), (SV.own 5)] [(Blk.cells [(SV.arr IntKind.u32 16 m.core.regs), (SV.v (Value.int IntKind.u32 m.core.pc)), (SV.arr IntKind.u32 12 m.core.csr), (SV.rd ETy.u8 m.mem), (SV.v (Value.int IntKind.u64 m.time)), (SV.rd ETy.u8 m.out), (SV.v (Value.bool m.halted))] 30), (Blk.row ETy.bool (K.insL m (List.length m.mem)) 4), (Blk.cells [(SV.arr IntKind.u32 16 m.core.regs), (SV.v (Value.int IntKind.u32 m.core.pc)), (SV.arr IntKind.u32 12 m.core.csr), (SV.own 5), (SV.v (Value.int IntKind.u64 m.time)), (SV.rd ETy.u8 m.out), (SV.v (Value.bool m.halted))] 30), (Blk.cells [(SV.arr IntKind.u32 16 (K.step m).fst.core.regs), (SV.v (Value.int IntKind.u32 (K.step m).fst.core.pc)), (SV.arr IntKind.u32 12 (K.step m).fst.core.csr), (SV.rd ETy.u8 (K.step m).fst.mem), (SV.v (Value.int IntKind.u64 (K.step m).fst.time)), (SV.rd ETy.u8 (K.step m).fst.out), (SV.v (Value.bool (K.step m).fst.halted))] 30), (Blk.cells [(SV.arr IntKind.u32 16 (K.step (K.othM m other)).fst.core.regs), (SV.v (Value.int IntKind.u32 (K.step (K.othM m other)).fst.core.pc)), (SV.arr IntKind.u32 12 (K.step (K.othM m other)).fst.core.csr), (SV.rd ETy.u8 (K.step (K.othM m other)).fst.mem), (SV.v (Value.int IntKind.u64 (K.step (K.othM m other)).fst.time)), (SV.rd ETy.u8 (K.step (K.othM m other)).fst.out), (SV.v (Value.bool (K.step (K.othM m other)).fst.halted))] 30), (Blk.frow ETy.u8 (K.othL m other (List.length m.mem)))]))
                                                  else
                                                    (bif (inRange (Int.ofNat x6) (List.length (K.step m).fst.mem)) then
                                                      (bif (inRange (Int.ofNat x6) (List.length m.mem)) then
                                                        (bif (bne (List.getD (K.step m).fst.mem (Int.toNat (Int.ofNat x6)) (0 : Int)) (List.getD m.mem (Int.toNat (Int.ofNat x6)) (0 : Int))) then
                                                          (Tree.leaf (SV.b false))
                                                        else
                                                          (bif (inRange (Int.ofNat x6) (List.length (K.step (K.othM m other)).fst.mem)) then
                                                            (bif (inRange (Int.ofNat x6) (List.length (K.othL m other (List.length m.mem)))) then
                                                              (bif (bne (List.getD (K.step (K.othM m other)).fst.mem (Int.toNat (Int.ofNat x6)) (0 : Int)) (List.getD (K.othL m other (List.length m.mem)) (Int.toNat (Int.ofNat x6)) (0 : Int))) then
                                                                (Tree.leaf (SV.b false))
                                                              else
                                                                ((Tree.next 2 [(SV.loc 0 0 0 1), (SV.own 1), (SV.loc 2 0 0 1), (SV.loc 3 0 0 1), (SV.loc 4 0 0 1), (SV.v (Value.int IntKind.i64 (IntKind.wrap IntKind.i64 ((Int.ofNat x6) + (1 : Int))))), (SV.own 5)] [(Blk.cells [(SV.arr IntKind.u32 16 m.core.regs), (SV.v (Value.int IntKind.u32 m.core.pc)), (SV.arr IntKind.u32 12 m.core.csr), (SV.rd ETy.u8 m.mem), (SV.v (Value.int IntKind.u64 m.time)), (SV.rd ETy.u8 m.out), (SV.v (Value.bool m.halted))] 30), (Blk.row ETy.bool (K.insL m (List.length m.mem)) 4), (Blk.cells [(SV.arr IntKind.u32 16 m.core.regs), (SV.v (Value.int IntKind.u32 m.core.pc)), (SV.arr IntKind.u32 12 m.core.csr), (SV.own 5), (SV.v (Value.int IntKind.u64 m.time)), (SV.rd ETy.u8 m.out), (SV.v (Value.bool m.halted))] 30), (Blk.cells [(SV.arr IntKind.u32 16 (K.step m).fst.core.regs), (SV.v (Value.int IntKind.u32 (K.step m).fst.core.pc)), (SV.arr IntKind.u32 12 (K.step m).fst.core.csr), (SV.rd ETy.u8 (K.step m).fst.mem), (SV.v (Value.int IntKind.u64 (K.step m).fst.time)), (SV.rd ETy.u8 (K.step m).fst.out), (SV.v (Value.bool (K.step m).fst.halted))] 30), (Blk.cells [(SV.arr IntKind.u32 16 (K.step (K.othM m other)).fst.core.regs), (SV.v (Value.int IntKind.u32 (K.step (K.othM m other)).fst.core.pc)), (SV.arr IntKind.u32 12 (K.step (K.othM m other)).fst.core.csr), (SV.rd ETy.u8 (K.step (K.othM m other)).fst.mem), (SV.v (Value.int IntKind.u64 (K.step (K.othM m other)).fst.time)), (SV.rd ETy.u8 (K.step (K.othM m other)).fst.out), (SV.v (Value.bool (K.step (K.othM m other)).fst.halted))] 30), (Blk.frow ETy.u8 (K.othL m other (List.length m.mem)))])))
                                                            else
                                                              (Tree.fail))
                                                          else
                                                            (Tree.fail)))
                                                      else
                                                        (Tree.fail))
                                                    else
                                                      (Tree.fail)))
                                                else
                                                  (Tree.fail)))
                                            else
                                              (Tree.fail))
                                          else
                                            (Tree.fail))
                                        else
                                          (bif (inRange (Int.ofNat x6) (List.length (K.insL m (List.length m.mem)))) then
                                            (bif (List.getD (K.insL m (List.length m.mem)) (Int.toNat (Int.ofNat x6)) false) then
                                              ((Tree.next 2 [(SV.loc 0 0 0 1), (SV.own 1), (SV.loc 2 0 0 1), (SV.loc 3 0 0 1), (SV.loc 4 0 0 1), (SV.v (Value.int IntKind.i64 (IntKind.wrap IntKind.i64 ((Int.ofNat x6) + (1 : Int))))), (SV.own 5)] [(Blk.cells [(SV.arr IntKind.u32 16 m.core.regs), (SV.v (Value.int IntKind.u32 m.core.pc)), (SV.arr IntKind.u32 12 m.core.csr), (SV.rd ETy.u8 m.mem), (SV.v (Value.int IntKind.u64 m.time)), (SV.rd ETy.u8 m.out), (SV.v (Value.bool m.halted))] 30), (Blk.row ETy.bool (K.insL m (List.length m.mem)) 4), (Blk.cells [(SV.arr IntKind.u32 16 m.core.regs), (SV.v (Value.int IntKind.u32 m.core.pc)), (SV.arr IntKind.u32 12 m.core.csr), (SV.own 5), (SV.v (Value.int IntKind.u64 m.time)), (SV.rd ETy.u8 m.out), (SV.v (Value.bool m.halted))] 30), (Blk.cells [(SV.arr IntKind.u32 16 (K.step m).fst.core.regs), (SV.v (Value.int IntKind.u32 (K.step m).fst.core.pc)), (SV.arr IntKind.u32 12 (K.step m).fst.core.csr), (SV.rd ETy.u8 (K.step m).fst.mem), (SV.v (Value.int IntKind.u64 (K.step m).fst.time)), (SV.rd ETy.u8 (K.step m).fst.out), (SV.v (Value.bool (K.step m).fst.halted))] 30), (Blk.cells [(SV.arr IntKind.u32 16 (K.step (K.othM m other)).fst.core.regs), (SV.v (Value.int IntKind.u32 (K.step (K.othM m other)).fst.core.pc)), (SV.arr IntKind.u32 12 (K.step (K.othM m other)).fst.core.csr), (SV.rd ETy.u8 (K.step (K.othM m other)).fst.mem), (SV.v (Value.int IntKind.u64 (K.step (K.othM m other)).fst.time)), (SV.rd ETy.u8 (K.step (K.othM m other)).fst.out), (SV.v (Value.bool (K.step (K.othM m other)).fst.halted))] 30), (Blk.frow ETy.u8 (K.othL m other (List.length m.mem)))]))
                                            else
                                              (bif (inRange (Int.ofNat x6) (List.length (K.step m).fst.mem)) then
                                                (bif (inRange (Int.ofNat x6) (List.length m.mem)) then
                                                  (bif (bne (List.getD (K.step m).fst.mem (Int.toNat (Int.ofNat x6)) (0 : Int)) (List.getD m.mem (Int.toNat (Int.ofNat x6)) (0 : Int))) then
                                                    (Tree.leaf (SV.b false))
                                                  else
                                                    (bif (inRange (Int.ofNat x6) (List.length (K.step (K.othM m other)).fst.mem)) then
                                                      (bif (inRange (Int.ofNat x6) (List.length (K.othL m other (List.length m.mem)))) then
                                                        (bif (bne (List.getD (K.step (K.othM m other)).fst.mem (Int.toNat (Int.ofNat x6)) (0 : Int)) (List.getD (K.othL m other (List.length m.mem)) (Int.toNat (Int.ofNat x6)) (0 : Int))) then
                                                          (Tree.leaf (SV.b false))
                                                        else
                                                          ((Tree.next 2 [(SV.loc 0 0 0 1), (SV.own 1), (SV.loc 2 0 0 1), (SV.loc 3 0 0 1), (SV.loc 4 0 0 1), (SV.v (Value.int IntKind.i64 (IntKind.wrap IntKind.i64 ((Int.ofNat x6) + (1 : Int))))), (SV.own 5)] [(Blk.cells [(SV.arr IntKind.u32 16 m.core.regs), (SV.v (Value.int IntKind.u32 m.core.pc)), (SV.arr IntKind.u32 12 m.core.csr), (SV.rd ETy.u8 m.mem), (SV.v (Value.int IntKind.u64 m.time)), (SV.rd ETy.u8 m.out), (SV.v (Value.bool m.halted))] 30), (Blk.row ETy.bool (K.insL m (List.length m.mem)) 4), (Blk.cells [(SV.arr IntKind.u32 16 m.core.regs), (SV.v (Value.int IntKind.u32 m.core.pc)), (SV.arr IntKind.u32 12 m.core.csr), (SV.own 5), (SV.v (Value.int IntKind.u64 m.time)), (SV.rd ETy.u8 m.out), (SV.v (Value.bool m.halted))] 30), (Blk.cells [(SV.arr IntKind.u32 16 (K.step m).fst.core.regs), (SV.v (Value.int IntKind.u32 (K.step m).fst.core.pc)), (SV.arr IntKind.u32 12 (K.step m).fst.core.csr), (SV.rd ETy.u8 (K.step m).fst.mem), (SV.v (Value.int IntKind.u64 (K.step m).fst.time)), (SV.rd ETy.u8 (K.step m).fst.out), (SV.v (Value.bool (K.step m).fst.halted))] 30), (Blk.cells [(SV.arr IntKind.u32 16 (K.step (K.othM m other)).fst.core.regs), (SV.v (Value.int IntKind.u32 (K.step (K.othM m other)).fst.core.pc)), (SV.arr IntKind.u32 12 (K.step (K.othM m other)).fst.core.csr), (SV.rd ETy.u8 (K.step (K.othM m other)).fst.mem), (SV.v (Value.int IntKind.u64 (K.step (K.othM m other)).fst.time)), (SV.rd ETy.u8 (K.step (K.othM m other)).fst.out), (SV.v (Value.bool (K.step (K.othM m other)).fst.halted))] 30), (Blk.frow ETy.u8 (K.othL m other (List.length m.mem)))])))
                                                      else
                                                        (Tree.fail))
                                                    else
                                                      (Tree.fail)))
                                                else
                                                  (Tree.fail))
                                              else
                                                (Tree.fail)))
                                          else
                                            (Tree.fail)))
                                      else
                                        (Tree.fail))
                                    else
                                      (Tree.leaf (SV.b true))))))
                              else
                                (Tree.leaf (SV.b false)))
                            else
                              (bif x5.fst.halted then
                                (Tree.leaf (SV.b false))
                              else
                                (bif (bne (Int.ofNat (List.length x4.fst.mem)) (Int.ofNat (List.length m.mem))) then
                                  (Tree.leaf (SV.b false))
                                else
                                  (bif (bne (Int.ofNat (List.length x5.fst.mem)) (Int.ofNat (List.length m.mem))) then
                                    (Tree.leaf (SV.b false))
                                  else
                                    (Tree.loop 2 (L_conf2 m other) [(SV.loc 0 0 0 1), (SV.own 1), (SV.loc 2 0 0 1), (SV.loc 3 0 0 1), (SV.loc 4 0 0 1), (SV.v (Value.int IntKind.i64 (0 : Int))), (SV.own 5)] [(Blk.cells [(SV.arr IntKind.u32 16 m.core.regs), (SV.v (Value.int IntKind.u32 m.core.pc)), (SV.arr IntKind.u32 12 m.core.csr), (SV.rd ETy.u8 m.mem), (SV.v (Value.int IntKind.u64 m.time)), (SV.rd ETy.u8 m.out), (SV.v (Value.bool m.halted))] 30), (Blk.row ETy.bool (K.insL m x3) 4), (Blk.cells [(SV.arr IntKind.u32 16 m.core.regs), (SV.v (Value.int IntKind.u32 m.core.pc)), (SV.arr IntKind.u32 12 m.core.csr), (SV.own 5), (SV.v (Value.int IntKind.u64 m.time)), (SV.rd ETy.u8 m.out), (SV.v (Value.bool m.halted))] 30), (Blk.cells [(SV.arr IntKind.u32 16 x4.fst.core.regs), (SV.v (Value.int IntKind.u32 x4.fst.core.pc)), (SV.arr IntKind.u32 12 x4.fst.core.csr), (SV.rd ETy.u8 x4.fst.mem), (SV.v (Value.int IntKind.u64 x4.fst.time)), (SV.rd ETy.u8 x4.fst.out), (SV.v (Value.bool x4.fst.halted))] 30), (Blk.cells [(SV.arr IntKind.u32 16 x5.fst.core.regs), (SV.v (Value.int IntKind.u32 x5.fst.core.pc)), (SV.arr IntKind.u32 12 x5.fst.core.csr), (SV.rd ETy.u8 x5.fst.mem), (SV.v (Value.int IntKind.u64 x5.fst.time)), (SV.rd ETy.u8 x5.fst.out), (SV.v (Value.bool x5.fst.halted))] 30), (Blk.frow ETy.u8 (K.othL m other x3))] fun (x6 : Nat) =>
                                    (bif (decide ((Int.ofNat x6) < (Int.ofNat (List.length m.mem)))) then
                                      (bif (inRange (Int.ofNat x6) (List.length (K.insL m (List.length m.mem)))) then
                                        (bif (List.getD (K.insL m (List.length m.mem)) (Int.toNat (Int.ofNat x6)) false) then
                                          (bif (inRange (Int.ofNat x6) (List.length (K.step m).fst.mem)) then
                                            (bif (inRange (Int.ofNat x6) (List.length (K.step (K.othM m other)).fst.mem)) then
                                              (bif (bne (List.getD (K.step m).fst.mem (Int.toNat (Int.ofNat x6)) (0 : Int)) (List.getD (K.step (K.othM m other)).fst.mem (Int.toNat (Int.ofNat x6)) (0 : Int))) then
                                                (Tree.leaf (SV.b false))
                                              else
                                                (bif (inRange (Int.ofNat x6) (List.length (K.insL m (List.length m.mem)))) then
                                                  (bif (List.getD (K.insL m (List.length m.mem)) (Int.toNat (Int.ofNat x6)) false) then
                                                    ((Tree.next 2 [(SV.loc 0 0 0 1), (SV.own 1), (SV.loc 2 0 0 1), (SV.loc 3 0 0 1), (SV.loc 4 0 0 1), (SV.v (Value.int IntKind.i64 (IntKind.wrap IntKind.i64 ((Int.ofNat x6) + (1 : Int))))), (SV.own 5)] [(Blk.cells [(SV.arr IntKind.u32 16 m.core.regs), (SV.v (Value.int IntKind.u32 m.core.pc)), (SV.arr IntKind.u32 12 m.core.csr), (SV.rd ETy.u8 m.mem), (SV.v (Value.int IntKind.u64 m.time)), (SV.rd ETy.u8 m.out), (SV.v (Value.bool m.halted))] 30), (Blk.row ETy.bool (K.insL m (List.length m.mem)) 4), (Blk.cells [(SV.arr IntKind.u32 16 m.core.regs), (SV.v (Value.int IntKind.u32 m.core.pc)), (SV.arr IntKind.u32 12 m.core.csr), (SV.own 5), (SV.v (Value.int IntKind.u64 m.time)), (SV.rd ETy.u8 m.out), (SV.v (Value.bool m.halted))] 30), (Blk.cells [(SV.arr IntKind.u32 16 (K.step m).fst.core.regs), (SV.v (Value.int IntKind.u32 (K.step m).fst.core.pc)), (SV.arr IntKind.u32 12 (K.step m).fst.core.csr), (SV.rd ETy.u8 (K.step m).fst.mem), (SV.v (Value.int IntKind.u64 (K.step m).fst.time)), (SV.rd ETy.u8 (K.step m).fst.out), (SV.v (Value.bool (K.step m).fst.halted))] 30), (Blk.cells [(SV.arr IntKind.u32 16 (K.step (K.othM m other)).fst.core.regs), (SV.v (Value.int IntKind.u32 (K.step (K.othM m other)).fst.core.pc)), (SV.arr IntKind.u32 12 (K.step (K.othM m other)).fst.core.csr), (SV.rd ETy.u8 (K.step (K.othM m other)).fst.mem), (SV.v (Value.int IntKind.u64 (K.step (K.othM m other)).fst.time)), (SV.rd ETy.u8 (K.step (K.othM m other)).fst.out), (SV.v (Value.bool (K.step (K.othM m other)).fst.halted))] 30), (Blk.frow ETy.u8 (K.othL m other (List.length m.mem)))]))
                                                  else
                                                    (bif (inRange (Int.ofNat x6) (List.length (K.step m).fst.mem)) then
                                                      (bif (inRange (Int.ofNat x6) (List.length m.mem)) then
                                                        (bif (bne (List.getD (K.step m).fst.mem (Int.toNat (Int.ofNat x6)) (0 : Int)) (List.getD m.mem (Int.toNat (Int.ofNat x6)) (0 : Int))) then
                                                          (Tree.leaf (SV.b false))
                                                        else
                                                          (bif (inRange (Int.ofNat x6) (List.length (K.step (K.othM m other)).fst.mem)) then
                                                            (bif (inRange (Int.ofNat x6) (List.length (K.othL m other (List.length m.mem)))) then
                                                              (bif (bne (List.getD (K.step (K.othM m other)).fst.mem (Int.toNat (Int.ofNat x6)) (0 : Int)) (List.getD (K.othL m other (List.length m.mem)) (Int.toNat (Int.ofNat x6)) (0 : Int))) then
                                                                (Tree.leaf (SV.b false))
                                                              else
                                                                ((Tree.next 2 [(SV.loc 0 0 0 1), (SV.own 1), (SV.loc 2 0 0 1), (SV.loc 3 0 0 1), (SV.loc 4 0 0 1), (SV.v (Value.int IntKind.i64 (IntKind.wrap IntKind.i64 ((Int.ofNat x6) + (1 : Int))))), (SV.own 5)] [(Blk.cells [(SV.arr IntKind.u32 16 m.core.regs), (SV.v (Value.int IntKind.u32 m.core.pc)), (SV.arr IntKind.u32 12 m.core.csr), (SV.rd ETy.u8 m.mem), (SV.v (Value.int IntKind.u64 m.time)), (SV.rd ETy.u8 m.out), (SV.v (Value.bool m.halted))] 30), (Blk.row ETy.bool (K.insL m (List.length m.mem)) 4), (Blk.cells [(SV.arr IntKind.u32 16 m.core.regs), (SV.v (Value.int IntKind.u32 m.core.pc)), (SV.arr IntKind.u32 12 m.core.csr), (SV.own 5), (SV.v (Value.int IntKind.u64 m.time)), (SV.rd ETy.u8 m.out), (SV.v (Value.bool m.halted))] 30), (Blk.cells [(SV.arr IntKind.u32 16 (K.step m).fst.core.regs), (SV.v (Value.int IntKind.u32 (K.step m).fst.core.pc)), (SV.arr IntKind.u32 12 (K.step m).fst.core.csr), (SV.rd ETy.u8 (K.step m).fst.mem), (SV.v (Value.int IntKind.u64 (K.step m).fst.time)), (SV.rd ETy.u8 (K.step m).fst.out), (SV.v (Value.bool (K.step m).fst.halted))] 30), (Blk.cells [(SV.arr IntKind.u32 16 (K.step (K.othM m other)).fst.core.regs), (SV.v (Value.int IntKind.u32 (K.step (K.othM m other)).fst.core.pc)), (SV.arr IntKind.u32 12 (K.step (K.othM m other)).fst.core.csr), (SV.rd ETy.u8 (K.step (K.othM m other)).fst.mem), (SV.v (Value.int IntKind.u64 (K.step (K.othM m other)).fst.time)), (SV.rd ETy.u8 (K.step (K.othM m other)).fst.out), (SV.v (Value.bool (K.step (K.othM m other)).fst.halted))] 30), (Blk.frow ETy.u8 (K.othL m other (List.length m.mem)))])))
                                                            else
                                                              (Tree.fail))
                                                          else
                                                            (Tree.fail)))
                                                      else
                                                        (Tree.fail))
                                                    else
                                                      (Tree.fail)))
                                                else
                                                  (Tree.fail)))
                                            else
                                              (Tree.fail))
                                          else
                                            (Tree.fail))
                                        else
                                          (bif (inRange (Int.ofNat x6) (List.length (K.insL m (List.length m.mem)))) then
                                            (bif (List.getD (K.insL m (List.length m.mem)) (Int.toNat (Int.ofNat x6)) false) then
                                              ((Tree.next 2 [(SV.loc 0 0 0 1), (SV.own 1), (SV.loc 2 0 0 1), (SV.loc 3 0 0 1), (SV.loc 4 0 0 1), (SV.v (Value.int IntKind.i64 (IntKind.wrap IntKind.i64 ((Int.ofNat x6) + (1 : Int))))), (SV.own 5)] [(Blk.cells [(SV.arr IntKind.u32 16 m.core.regs), (SV.v (Value.int IntKind.u32 m.core.pc)), (SV.arr IntKind.u32 12 m.core.csr), (SV.rd ETy.u8 m.mem), (SV.v (Value.int IntKind.u64 m.time)), (SV.rd ETy.u8 m.out), (SV.v (Value.bool m.halted))] 30), (Blk.row ETy.bool (K.insL m (List.length m.mem)) 4), (Blk.cells [(SV.arr IntKind.u32 16 m.core.regs), (SV.v (Value.int IntKind.u32 m.core.pc)), (SV.arr IntKind.u32 12 m.core.csr), (SV.own 5), (SV.v (Value.int IntKind.u64 m.time)), (SV.rd ETy.u8 m.out), (SV.v (Value.bool m.halted))] 30), (Blk.cells [(SV.arr IntKind.u32 16 (K.step m).fst.core.regs), (SV.v (Value.int IntKind.u32 (K.step m).fst.core.pc)), (SV.arr IntKind.u32 12 (K.step m).fst.core.csr), (SV.rd ETy.u8 (K.step m).fst.mem), (SV.v (Value.int IntKind.u64 (K.step m).fst.time)), (SV.rd ETy.u8 (K.step m).fst.out), (SV.v (Value.bool (K.step m).fst.halted))] 30), (Blk.cells [(SV.arr IntKind.u32 16 (K.step (K.othM m other)).fst.core.regs), (SV.v (Value.int IntKind.u32 (K.step (K.othM m other)).fst.core.pc)), (SV.arr IntKind.u32 12 (K.step (K.othM m other)).fst.core.csr), (SV.rd ETy.u8 (K.step (K.othM m other)).fst.mem), (SV.v (Value.int IntKind.u64 (K.step (K.othM m other)).fst.time)), (SV.rd ETy.u8 (K.step (K.othM m other)).fst.out), (SV.v (Value.bool (K.step (K.othM m other)).fst.halted))] 30), (Blk.frow ETy.u8 (K.othL m other (List.length m.mem)))]))
                                            else
                                              (bif (inRange (Int.ofNat x6) (List.length (K.step m).fst.mem)) then
                                                (bif (inRange (Int.ofNat x6) (List.length m.mem)) then
                                                  (bif (bne (List.getD (K.step m).fst.mem (Int.toNat (Int.ofNat x6)) (0 : Int)) (List.getD m.mem (Int.toNat (Int.ofNat x6)) (0 : Int))) then
                                                    (Tree.leaf (SV.b false))
                                                  else
                                                    (bif (inRange (Int.ofNat x6) (List.length (K.step (K.othM m other)).fst.mem)) then
                                                      (bif (inRange (Int.ofNat x6) (List.length (K.othL m other (List.length m.mem)))) then
                                                        (bif (bne (List.getD (K.step (K.othM m other)).fst.mem (Int.toNat (Int.ofNat x6)) (0 : Int)) (List.getD (K.othL m other (List.length m.mem)) (Int.toNat (Int.ofNat x6)) (0 : Int))) then
                                                          (Tree.leaf (SV.b false))
                                                        else
                                                          ((Tree.next 2 [(SV.loc 0 0 0 1), (SV.own 1), (SV.loc 2 0 0 1), (SV.loc 3 0 0 1), (SV.loc 4 0 0 1), (SV.v (Value.int IntKind.i64 (IntKind.wrap IntKind.i64 ((Int.ofNat x6) + (1 : Int))))), (SV.own 5)] [(Blk.cells [(SV.arr IntKind.u32 16 m.core.regs), (SV.v (Value.int IntKind.u32 m.core.pc)), (SV.arr IntKind.u32 12 m.core.csr), (SV.rd ETy.u8 m.mem), (SV.v (Value.int IntKind.u64 m.time)), (SV.rd ETy.u8 m.out), (SV.v (Value.bool m.halted))] 30), (Blk.row ETy.bool (K.insL m (List.length m.mem)) 4), (Blk.cells [(SV.arr IntKind.u32 16 m.core.regs), (SV.v (Value.int IntKind.u32 m.core.pc)), (SV.arr IntKind.u32 12 m.core.csr), (SV.own 5), (SV.v (Value.int IntKind.u64 m.time)), (SV.rd ETy.u8 m.out), (SV.v (Value.bool m.halted))] 30), (Blk.cells [(SV.arr IntKind.u32 16 (K.step m).fst.core.regs), (SV.v (Value.int IntKind.u32 (K.step m).fst.core.pc)), (SV.arr IntKind.u32 12 (K.step m).fst.core.csr), (SV.rd ETy.u8 (K.step m).fst.mem), (SV.v (Value.int IntKind.u64 (K.step m).fst.time)), (SV.rd ETy.u8 (K.step m).fst.out), (SV.v (Value.bool (K.step m).fst.halted))] 30), (Blk.cells [(SV.arr IntKind.u32 16 (K.step (K.othM m other)).fst.core.regs), (SV.v (Value.int IntKind.u32 (K.step (K.othM m other)).fst.core.pc)), (SV.arr IntKind.u32 12 (K.step (K.othM m other)).fst.core.csr), (SV.rd ETy.u8 (K.step (K.othM m other)).fst.mem), (SV.v (Value.int IntKind.u64 (K.step (K.othM m other)).fst.time)), (SV.rd ETy.u8 (K.step (K.othM m other)).fst.out), (SV.v (Value.bool (K.step (K.othM m other)).fst.halted))] 30), (Blk.frow ETy.u8 (K.othL m other (List.length m.mem)))])))
                                                      else
                                                        (Tree.fail))
                                                    else
                                                      (Tree.fail)))
                                                else
                                                  (Tree.fail))
                                              else
                                                (Tree.fail)))
                                          else
                                            (Tree.fail)))
                                      else
                                        (Tree.fail))
                                    else
                                      (Tree.leaf (SV.b true))))))))))))
                    else
                      (Tree.fail)))
                  else
                    (Tree.fail))))
              else
                (Tree.fail))
            else
              (Tree.fail))
          else
            (Tree.fail)))))
    else
      (Tree.letv (okO [AT.b]) true fun x2 =>
      (bif x2 then
        (Tree.leaf (SV.b true))
      else
        (Tree.leaf (SV.b false))))))
  else
    (Tree.letv (okO [AT.b]) true fun x1 =>
    (bif x1 then
      (Tree.leaf (SV.b true))
    else
      (Tree.leaf (SV.b false))))) := by kernel_rfl
theorem a_law13_StepUserModeConfinement (m : PMach) (other : List Int) (ok_m : okMach m) (ok_other : okBytes other) : (evFL E_law13_StepUserModeConfinement (fun b => if b = 0 then some (L_conf1 m other) else if b = 2 then some (L_conf2 m other) else none) 60 5 (encArgs [.mach, .rd .u8] (m, other, ()))).ends fun out_ => decO [.b] out_ = some (true) := by
  rw [t_law13_StepUserModeConfinement, Tree.ends_holds]
  have hc := ok_m.core
  obtain ⟨b0, b1⟩ := hc.csr.u32 (i := 5) (by omega)
  obtain ⟨c0, c1⟩ := hc.csr.u32 (i := 6) (by omega)
  have hw5 : IntKind.i64.wrap (m.core.csr.getD 5 0) = m.core.csr.getD 5 0 := wrapI64 (by omega) (by omega)
  have hw6 : IntKind.i64.wrap (m.core.csr.getD 6 0) = m.core.csr.getD 6 0 := wrapI64 (by omega) (by omega)
  have hw56 : IntKind.i64.wrap (m.core.csr.getD 5 0 + m.core.csr.getD 6 0) = m.core.csr.getD 5 0 + m.core.csr.getD 6 0 := wrapI64 (by omega) (by omega)
  have f5 : K.few m = true → m.mem.length ≤ 1099511627776 ∧ m.out.length ≤ 1099511627776 := fun h => by simp only [K.few, Bool.and_eq_true, decide_eq_true_eq] at h; omega
  have ic : ∀ x : Nat, (x : Int) ≥ m.core.csr.getD 5 0 → (x : Int) < m.core.csr.getD 5 0 + m.core.csr.getD 6 0 → true = K.insC m x := fun x h1 h2 => by unfold K.insC; symm; simp only [Bool.and_eq_true, decide_eq_true_eq]; omega
  have ic1 : ∀ x : Nat, ¬ (x : Int) ≥ m.core.csr.getD 5 0 → false = K.insC m x := fun x h1 => (Bool.eq_false_iff.2 fun q => by simp only [K.insC, Bool.and_eq_true, decide_eq_true_eq] at q; omega).symm
  have ic2 : ∀ x : Nat, ¬ (x : Int) < m.core.csr.getD 5 0 + m.core.csr.getD 6 0 → false = K.insC m x := fun x h1 => (Bool.eq_false_iff.2 fun q => by simp only [K.insC, Bool.and_eq_true, decide_eq_true_eq] at q; omega).symm
  have gs : ∀ (x : Nat) (q : Bool), x < m.mem.length → ((K.insL m x).set x q).getD x false = q := fun x q h => by
    rw [List.getD_eq_getElem?_getD, List.getElem?_set_self (by rw [insL_len]; exact h)]; rfl
  have gsT : ∀ x : Nat, ((K.insL m x).set x true).getD x false = false → x < m.mem.length → False := fun x q h => by rw [gs _ _ h] at q; cases q
  have gsF : ∀ x : Nat, ((K.insL m x).set x false).getD x false = true → x < m.mem.length → False := fun x q h => by rw [gs _ _ h] at q; cases q
  have e2 : ∀ x : Nat, x < m.mem.length → m.mem.length ≤ 1099511627776 → IntKind.i64.wrap ((x : Int) + 1) = ((x + 1 : Nat) : Int) := fun x h1 h2 => by rw [wrapI64 (by omega) (by omega)]; rfl
  by_cases hf : K.few m = true
  rotate_left
  · simp only [Tree.holds_loop, Tree.holds_fork, Tree.holds_next, if_true, Tree.holds_cond, Tree.holds_letv, Tree.holds_leaf, Tree.holds_fail, decO, decA, decTup, decMach, decCore, decTrap, decInstr, decPart, decGuest, decConf, decEvent, decVcpu, decStep, bytesS, boolS, eventsS, intsS, guestsS, vcpusS, rowS, castL, Option.bind_some, Option.map_some, Option.some.injEq, Nat.beq_refl, beq_self_eq_true, Bool.and_self, cond_true, cond_false, eq_self]
    repeat' (first | refine drop_ok ?_ | intro _ | with_reducible apply And.intro)
    all_goals first | trivial | contradiction
  obtain ⟨l1, l2⟩ := f5 hf
  by_cases hu : K.super m.core = false
  rotate_left
  · simp only [Tree.holds_loop, Tree.holds_fork, Tree.holds_next, if_true, Tree.holds_cond, Tree.holds_letv, Tree.holds_leaf, Tree.holds_fail, decO, decA, decTup, decMach, decCore, decTrap, decInstr, decPart, decGuest, decConf, decEvent, decVcpu, decStep, bytesS, boolS, eventsS, intsS, guestsS, vcpusS, rowS, castL, Option.bind_some, Option.map_some, Option.some.injEq, Nat.beq_refl, beq_self_eq_true, Bool.and_self, cond_true, cond_false, eq_self]
    repeat' (first | refine drop_ok ?_ | intro _ | with_reducible apply And.intro)
    all_goals first | trivial | contradiction
  have big := step_conf (n := K.othM m other) hu b0 hc.pc.1 rfl rfl rfl (by simp only [K.othM, othL_len]) fun i h1 h2 => by
    by_cases hi : i < m.mem.length
    · simp only [K.othM]
      rw [othL_at hi, if_neg fun q => by have := ic i h1 h2; rw [q.2.1] at this; cases this]
    · have gd : ∀ l : List Int, l.length ≤ i → l.getD i 0 = 0 := fun l h => by rw [List.getD_eq_getElem?_getD, List.getElem?_eq_none h]; rfl
      rw [gd _ (by omega), gd _ (by simp only [K.othM, othL_len]; omega)]
  obtain ⟨g1, g2, g3, g4, g5, g6, g7, g8⟩ := big
  simp only [Tree.holds_cond, Tree.holds_letv, Tree.holds_leaf, Tree.holds_fail, decO, decA, decTup, decMach, decCore, decTrap, decInstr, decPart, decGuest, decConf, decEvent, decVcpu, decStep, bytesS, boolS, eventsS, intsS, guestsS, vcpusS, rowS, castL, Option.bind_some, Option.map_some, Option.some.injEq, Nat.beq_refl, beq_self_eq_true, Bool.and_self, cond_true, cond_false, eq_self, beq_iff_eq, beq_eq_false_iff_ne, bne_iff_ne, bne_eq_false_iff_eq, ne_eq, decide_eq_true_eq, decide_eq_false_iff_not, ble_true, ble_false, inRange_iff, inRange_false, Int.ofNat_eq_natCast, Int.toNat_natCast, hw5, hw6]
  repeat' (first | refine drop_ok ?_ | intro _ | with_reducible apply And.intro)
  all_goals first
    | trivial
    | (exfalso; omega)
    | (exfalso; rename_i hq; rw [Bool.or_true] at hq; exact Bool.noConfusion hq)
    | (exfalso; rename_i hq; simp only [decide_true, Bool.true_and, Bool.and_eq_false_iff, decide_eq_false_iff_not] at hq; omega)
    | skip
  rw [Tree.holds_loop]
  refine ⟨conf_start1 (insL_zero m), fun (x : Nat) (hx : x ≤ m.mem.length) => ?_⟩
  by_cases hlt : x < m.mem.length
  · simp only [Tree.holds_loop, Tree.holds_fork, Tree.holds_next, if_true, Tree.holds_cond, Tree.holds_letv, Tree.holds_leaf, Tree.holds_fail, decO, decA, decTup, decMach, decCore, decTrap, decInstr, decPart, decGuest, decConf, decEvent, decVcpu, decStep, bytesS, boolS, eventsS, intsS, guestsS, vcpusS, rowS, castL, Option.bind_some, Option.map_some, Option.some.injEq, Nat.beq_refl, beq_self_eq_true, Bool.and_self, cond_true, cond_false, eq_self, beq_iff_eq, beq_eq_false_iff_ne, bne_iff_ne, bne_eq_false_iff_eq, ne_eq, decide_eq_true_eq, decide_eq_false_iff_not, ble_true, ble_false, inRange_iff, inRange_false, insL_len, othL_len, hw56, List.length_set]
    repeat' (first | refine drop_ok ?_ | intro _ | with_reducible apply And.intro)
    all_goals first
      | exact (gsT _ (by assumption) hlt).elim
      | exact (gsF _ (by assumption) hlt).elim
      | exact conf_next1 hlt (e2 _ hlt l1) (insL_set (ic _ (by assumption) (by assumption))) (othL_same (.inl (ic _ (by assumption) (by assumption)).symm))
      | exact conf_next1 hlt (e2 _ hlt l1) (insL_set (ic1 _ (by assumption))) (othL_set (ic1 _ (by assumption)).symm (by omega))
      | exact conf_next1 hlt (e2 _ hlt l1) (insL_set (ic2 _ (by assumption))) (othL_set (ic2 _ (by assumption)).symm (by omega))
      | exact conf_next1 hlt (e2 _ hlt l1) (insL_set (ic1 _ (by assumption))) (othL_same (.inr (by omega)))
      | exact conf_next1 hlt (e2 _ hlt l1) (insL_set (ic2 _ (by assumption))) (othL_same (.inr (by omega)))
      | (exfalso; omega)
  · obtain rfl : x = m.mem.length := by omega
    have hO : PMach.mk m.core (K.othL m other m.mem.length) m.time m.out m.halted = K.othM m other := rfl
    have hin : ∀ x : Nat, (K.insL m m.mem.length).getD x false = true → x < m.mem.length → (K.step m).1.mem.getD x 0 = (K.step (K.othM m other)).1.mem.getD x 0 := fun x h1 h2 => by
      rw [insL_at h2] at h1
      simp only [K.insC, Bool.and_eq_true, decide_eq_true_eq] at h1
      exact g7 x (by omega) h1.2.1 h1.2.2
    have hout : ∀ x : Nat, (K.insL m m.mem.length).getD x false = false → x < m.mem.length → (K.step m).1.mem.getD x 0 = m.mem.getD x 0 ∧ (K.step (K.othM m other)).1.mem.getD x 0 = (K.othL m other m.mem.length).getD x 0 := fun x h1 h2 => by
      rw [insL_at h2] at h1
      refine g8 x fun q => ?_
      rw [← ic x q.1 q.2, decide_eq_true h2] at h1
      cases h1
    simp only [Tree.holds_loop, Tree.holds_fork, Tree.holds_next, if_true, Tree.holds_cond, Tree.holds_letv, Tree.holds_leaf, Tree.holds_fail, decO, decA, decTup, decMach, decCore, decTrap, decInstr, decPart, decGuest, decConf, decEvent, decVcpu, decStep, bytesS, boolS, eventsS, intsS, guestsS, vcpusS, rowS, castL, Option.bind_some, Option.map_some, Option.some.injEq, Nat.beq_refl, beq_self_eq_true, Bool.and_self, cond_true, cond_false, eq_self, beq_iff_eq, beq_eq_false_iff_ne, bne_iff_ne, bne_eq_false_iff_eq, ne_eq, decide_eq_true_eq, decide_eq_false_iff_not, ble_true, ble_false, inRange_iff, inRange_false, insL_len, othL_len, hO, g5, g6]
    repeat' (first | refine drop_ok ?_ | intro _ | with_reducible apply And.intro)
    all_goals first
      | trivial
      | exact conf_2 (i := 0) rfl rfl rfl rfl (Nat.zero_le _) trivial
      | exact conf_2 rfl rfl rfl (e2 _ (by omega) l1) (by omega) (Nat.sub_lt_sub_left (by omega) (Nat.lt_succ_self _))
      | exact absurd (hin _ (by assumption) (by omega)) (by assumption)
      | exact absurd (hout _ (by assumption) (by omega)).1 (by assumption)
      | exact absurd (hout _ (by assumption) (by omega)).2 (by assumption)
      | exact absurd g3.symm (by assumption)
      | (exfalso; rename_i h1 h2; rw [g4, h1] at h2; exact Bool.noConfusion h2)
      | (exfalso; rename_i hq; exact hq trivial)
      | (exfalso; rename_i hq; rw [g1] at hq; simp at hq; done)
      | (exfalso; rename_i hq; rw [g2] at hq; simp at hq; done)
      | (exfalso; omega)
  
theorem c_law13_StepUserModeConfinement : SpecOk EB_0_1_2 5 S_law13_StepUserModeConfinement := spec_sigL ok_law13_StepUserModeConfinement (n := 60) (fun (m, other, _) => fun b => if b = 0 then some (L_conf1 m other) else if b = 2 then some (L_conf2 m other) else none) fun ⟨m, other, ⟨⟩⟩ h hok => a_law13_StepUserModeConfinement m other (ok_mach (okSL_head hok)) (ok_bytes (okSL_head (okSL_tail hok)))


end Go.Proofs.YtjnigggpijfdeaaDoor
