/- Contracts of functions, by evaluation (nothing is claimed here). -/
import Derived.Test.YtchljgmcempedaaGreatDoorSh38
import Derived.KernelRfl
import Derived.Test.YtchljgmcempedaaGreatDoorProg
import Derived.Test.YtchljgmcempedaaGreatDoorReplayMatchesReferenceB2
set_option linter.unusedVariables false
set_option linter.unusedSimpArgs false
set_option maxRecDepth 100000
set_option maxHeartbeats 1000000
namespace Go.Proofs.YtchljgmcempedaaGreatDoor
open Go
/-! trap_Return -/

def S_trap_Return : Spec := sig [.core] [.core] (fun (c, _) => K.ret c)
noncomputable def E_trap_Return : Env := EB.adds []

theorem ok_trap_Return : EnvOk E_trap_Return := okEB.adds (l := _) trivial
theorem t_trap_Return (c : PCore) : evF E_trap_Return 60 70 (encArgs [.core] (c, ())) = bif (bne (andI IntKind.u32 (List.getD c.csr 0 (0 : Int)) (4 : Int)) (0 : Int)) then (bif (bne (andI IntKind.u32 (List.getD c.csr 0 (0 : Int)) (8 : Int)) (0 : Int)) then (Tree.leaf (SV.agg [(SV.arr IntKind.u32 16 c.regs), (SV.v (Value.int IntKind.u32 (List.getD c.csr 1 (0 : Int)))), (SV.arr IntKind.u32 12 (List.set c.csr 0 (orI IntKind.u32 (orI IntKind.u32 (List.getD c.csr 0 (0 : Int)) (1 : Int)) (2 : Int))))])) else (Tree.leaf (SV.agg [(SV.arr IntKind.u32 16 c.regs), (SV.v (Value.int IntKind.u32 (List.getD c.csr 1 (0 : Int)))), (SV.arr IntKind.u32 12 (List.set c.csr 0 (andNotI IntKind.u32 (orI IntKind.u32 (List.getD c.csr 0 (0 : Int)) (1 : Int)) (2 : Int))))]))) else (bif (bne (andI IntKind.u32 (List.getD c.csr 0 (0 : Int)) (8 : Int)) (0 : Int)) then (Tree.leaf (SV.agg [(SV.arr IntKind.u32 16 c.regs), (SV.v (Value.int IntKind.u32 (List.getD c.csr 1 (0 : Int)))), (SV.arr IntKind.u32 12 (List.set c.csr 0 (orI IntKind.u32 (andNotI IntKind.u32 (List.getD c.csr 0 (0 : Int)) (1 : Int)) (2 : Int))))])) else (Tree.leaf (SV.agg [(SV.arr IntKind.u32 16 c.regs), (SV.v (Value.int IntKind.u32 (List.getD c.csr 1 (0 : Int)))), (SV.arr IntKind.u32 12 (List.set c.csr 0 (andNotI IntKind.u32 (andNotI IntKind.u32 (List.getD c.csr 0 (0 : Int)) (1 : Int)) (2 : Int))))]))) := by kernel_rfl
section
attribute [local irreducible] evF evFL evFLs evFP
theorem a_trap_Return (c : PCore) (ok_c : okCore c) : (evF E_trap_Return 60 70 (encArgs [.core] (c, ()))).ends fun out_ => decO [.core] out_ = some (K.ret c) := by
  rw [t_trap_Return, Tree.ends_holds]
  obtain ⟨s0, s1⟩ := ok_c.csr.u32 (i := 0) (by omega)
  simp only [Tree.holds_loop, Tree.holds_fork, Tree.holds_next, if_true, Tree.holds_cond, Tree.holds_letv, Tree.holds_leaf, Tree.holds_fail, decO, decA, decTup, decMach, decCore, decTrap, decInstr, decPart, decGuest, decConf, decEvent, decVcpu, decStep, bytesS, boolS, eventsS, intsS, guestsS, vcpusS, rowS, castL, Option.bind_some, Option.map_some, Option.some.injEq, Nat.beq_refl, beq_self_eq_true, Bool.and_self, cond_true, cond_false, eq_self, K.ret, K.retS]
  generalize c.csr.getD 0 0 = s at *
  simp only [and_4 s0 s1, and_8 s0 s1, or_1 s0 s1, andNot_1 s0 s1]
  have a2 : ∀ x : Int, 0 ≤ x → x < 4294967296 → orI .u32 x 2 = x + 2 * (1 - x / 2 % 2) := fun x h0 h1 => or_2 h0 h1
  have a3 : ∀ x : Int, 0 ≤ x → x < 4294967296 → andNotI .u32 x 2 = x - 2 * (x / 2 % 2) := fun x h0 h1 => andNot_2 h0 h1
  rw [a2 _ (by omega) (by omega), a2 _ (by omega) (by omega), a3 _ (by omega) (by omega), a3 _ (by omega) (by omega)]
  simp only [bne_iff_ne, ne_eq, bne_eq_false_iff_eq]
  refine ⟨fun h1 => ⟨fun h2 => ?_, fun h2 => ?_⟩, fun h1 => ⟨fun h2 => ?_, fun h2 => ?_⟩⟩ <;> (congr 2; omega)
  
theorem c_trap_Return : SpecOk EB 70 S_trap_Return := spec_sig ok_trap_Return (n := 60) fun ⟨c, ⟨⟩⟩ h hok => a_trap_Return c (ok_core (okSL_head hok))
end

/-! csr_Read -/

def S_csr_Read : Spec := sig [.a .u32 12, .i .u64, .i .i64] [.i .u32] (fun (c, time, n, _) => K.csrRead c time n)
noncomputable def E_csr_Read : Env := EB.adds []

theorem ok_csr_Read : EnvOk E_csr_Read := okEB.adds (l := _) trivial
theorem t_csr_Read (c : List Int) (time : Int) (n : Int) : evF E_csr_Read 60 72 (encArgs [.a .u32 12, .i .u64, .i .i64] (c, time, n, ())) = bif (BEq.beq n (7 : Int)) then (Tree.leaf (SV.v (Value.int IntKind.u32 (IntKind.wrap IntKind.u32 time)))) else (bif (BEq.beq n (8 : Int)) then (Tree.leaf (SV.v (Value.int IntKind.u32 (IntKind.wrap IntKind.u32 (Int.fdiv time (4294967296 : Int)))))) else (bif (decide (n ≥ (0 : Int))) then (bif (decide (n < (12 : Int))) then (bif (inRange n 12) then (Tree.leaf (SV.v (Value.int IntKind.u32 (List.getD c ((Int.toNat n)) (0 : Int))))) else (Tree.fail)) else (Tree.leaf (SV.v (Value.int IntKind.u32 (0 : Int))))) else (Tree.leaf (SV.v (Value.int IntKind.u32 (0 : Int)))))) := by kernel_rfl
section
attribute [local irreducible] evF evFL evFLs evFP
theorem a_csr_Read (c : List Int) (time : Int) (n : Int) (ok_c : okL .u32 12 c) (ok_time : okI .u64 time) (ok_n : okI .i64 n) : (evF E_csr_Read 60 72 (encArgs [.a .u32 12, .i .u64, .i .i64] (c, time, n, ()))).ends fun out_ => decO [.i .u32] out_ = some (K.csrRead c time n) := by
  rw [t_csr_Read, Tree.ends_holds]
  obtain ⟨t0, t1⟩ := okI_u64 ok_time
  have e1 : IntKind.u32.wrap (Int.fdiv time 4294967296) = time / 4294967296 := by rw [Int.fdiv_eq_ediv_of_nonneg _ (by omega), wrap32]; omega
  simp only [Tree.holds_loop, Tree.holds_fork, Tree.holds_next, if_true, Tree.holds_cond, Tree.holds_letv, Tree.holds_leaf, Tree.holds_fail, decO, decA, decTup, decMach, decCore, decTrap, decInstr, decPart, decGuest, decConf, decEvent, decVcpu, decStep, bytesS, boolS, eventsS, intsS, guestsS, vcpusS, rowS, castL, Option.bind_some, Option.map_some, Option.some.injEq, Nat.beq_refl, beq_self_eq_true, Bool.and_self, cond_true, cond_false, eq_self, K.csrRead, e1, wrap32]
  grind [inRange]
  
theorem c_csr_Read : SpecOk EB 72 S_csr_Read := spec_sig ok_csr_Read (n := 60) fun ⟨c, time, n, ⟨⟩⟩ h hok => a_csr_Read c time n (ok_arr (okSL_head hok)) (ok_int (okSL_head (okSL_tail hok))) (ok_int (okSL_head (okSL_tail (okSL_tail hok))))
end

/-! csr_masks -/

def S_csr_masks : Spec := sig [] [.a .u32 12] (fun _ => K.mk)
noncomputable def E_csr_masks : Env := EB.adds []

theorem ok_csr_masks : EnvOk E_csr_masks := okEB.adds (l := _) trivial
theorem t_csr_masks : evF E_csr_masks 60 110 (encArgs [] ()) = Tree.leaf (SV.agg [(SV.arr IntKind.u32 12 [(14 : Int), (4294967292 : Int), (4294967295 : Int), (4294967295 : Int), (4294967292 : Int), (4294967292 : Int), (4294967295 : Int), (0 : Int), (0 : Int), (4294967295 : Int), (4294967295 : Int), (4294967295 : Int)])]) := by kernel_rfl
section
attribute [local irreducible] evF evFL evFLs evFP
theorem a_csr_masks : (evF E_csr_masks 60 110 (encArgs [] ())).ends fun out_ => decO [.a .u32 12] out_ = some (K.mk) := by
  rw [t_csr_masks, Tree.ends_holds]
  rfl
  
theorem c_csr_masks : SpecOk EB 110 S_csr_masks := spec_sig ok_csr_masks (n := 60) fun () h hok => a_csr_masks 
end

/-! csr_Write -/

def S_csr_Write : Spec := sig [.a .u32 12, .i .i64, .i .u32] [.a .u32 12] (fun (c, n, v, _) => K.csrWrite c n v)
noncomputable def E_csr_Write : Env := EB.adds [(110, S_csr_masks)]

theorem ok_csr_Write : EnvOk E_csr_Write := okEB.adds (l := _) ⟨c_csr_masks, trivial⟩
theorem t_csr_Write (c : List Int) (n : Int) (v : Int) : evF E_csr_Write 60 73 (encArgs [.a .u32 12, .i .i64, .i .u32] (c, n, v, ())) = bif (decide (n ≥ (0 : Int))) then (bif (decide (n < (12 : Int))) then (bif (inRange n 12) then (Tree.letv (okO [(AT.a IntKind.u32 12)]) K.mk fun x0 => (bif (inRange n 12) then (Tree.letv (okO [(AT.a IntKind.u32 12)]) K.mk fun x1 => (bif (inRange n 12) then (bif (inRange n 12) then (Tree.leaf (SV.agg [(SV.arr IntKind.u32 12 (List.set c ((Int.toNat n)) (orI IntKind.u32 (andNotI IntKind.u32 (List.getD c ((Int.toNat n)) (0 : Int)) (List.getD x0 ((Int.toNat n)) (0 : Int))) (andI IntKind.u32 v (List.getD x1 ((Int.toNat n)) (0 : Int))))))])) else (Tree.fail)) else (Tree.fail))) else (Tree.fail))) else (Tree.fail)) else (Tree.leaf (SV.agg [(SV.arr IntKind.u32 12 c)]))) else (Tree.leaf (SV.agg [(SV.arr IntKind.u32 12 c)])) := by kernel_rfl
section
attribute [local irreducible] evF evFL evFLs evFP
theorem a_csr_Write (c : List Int) (n : Int) (v : Int) (ok_c : okL .u32 12 c) (ok_n : okI .i64 n) (ok_v : okI .u32 v) : (evF E_csr_Write 60 73 (encArgs [.a .u32 12, .i .i64, .i .u32] (c, n, v, ()))).ends fun out_ => decO [.a .u32 12] out_ = some (K.csrWrite c n v) := by
  rw [t_csr_Write, Tree.ends_holds]
  simp only [Tree.holds_loop, Tree.holds_fork, Tree.holds_next, if_true, Tree.holds_cond, Tree.holds_letv, Tree.holds_leaf, Tree.holds_fail, decO, decA, decTup, decMach, decCore, decTrap, decInstr, decPart, decGuest, decConf, decEvent, decVcpu, decStep, bytesS, boolS, eventsS, intsS, guestsS, vcpusS, rowS, castL, Option.bind_some, Option.map_some, Option.some.injEq, Nat.beq_refl, beq_self_eq_true, Bool.and_self, cond_true, cond_false, eq_self, K.csrWrite, K.mix]
  by_cases hn : 0 ≤ n ∧ n < 12
  · simp only [hn.1, hn.2, inRange_iff.2 (show 0 ≤ n ∧ n < ((12 : Nat) : Int) from hn), ge_iff_le, decide_true, and_self, if_true]; simp
  · simp only [if_neg hn, inRange_iff]
    refine ⟨fun h1 => ⟨fun h2 => absurd ⟨by simpa using h1, by simpa using h2⟩ hn, fun _ => trivial⟩, fun _ => trivial⟩
  
theorem c_csr_Write : SpecOk EB 73 S_csr_Write := spec_sig ok_csr_Write (n := 60) fun ⟨c, n, v, ⟨⟩⟩ h hok => a_csr_Write c n v (ok_arr (okSL_head hok)) (ok_int (okSL_head (okSL_tail hok))) (ok_int (okSL_head (okSL_tail (okSL_tail hok))))
end

/-! priv_Execute -/

def S_priv_Execute : Spec := sig [.mach, .instr] [.mach] (fun (m, i, _) => K.priv m i) (pre := fun (m, i, _) => decide (m.out.length ≤ 1099511627776))
noncomputable def E_priv_Execute : Env := EB.adds [(69, S_regs_Get), (71, S_regs_Set), (70, S_trap_Return), (72, S_csr_Read), (73, S_csr_Write)]

theorem ok_priv_Execute : EnvOk E_priv_Execute := okEB.adds (l := _) ⟨c_regs_Get, c_regs_Set, c_trap_Return, c_csr_Read, c_csr_Write, trivial⟩
theorem t_priv_Execute (m : PMach) (i : PInstr) : evF E_priv_Execute 60 43 (encArgs [.mach, .instr] (m, i, ())) = Tree.letv (okO [(AT.i IntKind.u32)]) (K.get m.core.regs i.ra) fun x0 => (bif (BEq.beq i.op (23 : Int)) then (Tree.letv (okO [AT.core]) (K.ret m.core) fun x1 => (Tree.leaf (SV.agg [(SV.arr IntKind.u32 16 x1.regs), (SV.v (Value.int IntKind.u32 x1.pc)), (SV.arr IntKind.u32 12 x1.csr), (SV.rd ETy.u8 m.mem), (SV.v (Value.int IntKind.u64 m.time)), (SV.rd ETy.u8 m.out), (SV.v (Value.bool m.halted))]))) else (bif (BEq.beq i.op (21 : Int)) then (Tree.letv (okO [(AT.i IntKind.u32)]) (K.csrRead m.core.csr m.time (IntKind.wrap IntKind.i64 i.imm)) fun x1 => (Tree.letv (okO [(AT.a IntKind.u32 16)]) (K.put m.core.regs i.rd x1) fun x2 => (Tree.leaf (SV.agg [(SV.arr IntKind.u32 16 x2), (SV.v (Value.int IntKind.u32 (IntKind.wrap IntKind.u32 (m.core.pc + (4 : Int))))), (SV.arr IntKind.u32 12 m.core.csr), (SV.rd ETy.u8 m.mem), (SV.v (Value.int IntKind.u64 m.time)), (SV.rd ETy.u8 m.out), (SV.v (Value.bool m.halted))])))) else (bif (BEq.beq i.op (22 : Int)) then (Tree.letv (okO [(AT.a IntKind.u32 12)]) (K.csrWrite m.core.csr (IntKind.wrap IntKind.i64 i.imm) x0) fun x1 => (Tree.leaf (SV.agg [(SV.arr IntKind.u32 16 m.core.regs), (SV.v (Value.int IntKind.u32 (IntKind.wrap IntKind.u32 (m.core.pc + (4 : Int))))), (SV.arr IntKind.u32 12 x1), (SV.rd ETy.u8 m.mem), (SV.v (Value.int IntKind.u64 m.time)), (SV.rd ETy.u8 m.out), (SV.v (Value.bool m.halted))]))) else (bif (BEq.beq i.op (24 : Int))
 then (Tree.leaf (SV.agg [(SV.arr IntKind.u32 16 m.core.regs), (SV.v (Value.int IntKind.u32 (IntKind.wrap IntKind.u32 (m.core.pc + (4 : Int))))), (SV.arr IntKind.u32 12 m.core.csr), (SV.rd ETy.u8 m.mem), (SV.v (Value.int IntKind.u64 m.time)), (SV.rd ETy.u8 m.out), (SV.b true)])) else (bif (BEq.beq i.op (25 : Int)) then (bif (Bool.and (decide ((0 : Int) ≤ (Int.ofNat (List.length m.out)))) (Bool.and (decide ((Int.ofNat (List.length m.out)) ≤ (Int.ofNat (List.length m.out)))) (decide ((Int.ofNat (List.length m.out)) = (Int.ofNat (List.length m.out)))))) then (bif (Nat.ble (((List.length (List.drop 0 (List.take (Int.toNat (Int.ofNat (List.length m.out))) m.out))) + 1) * 1) 140737488355328) then (Tree.leaf (SV.agg [(SV.arr IntKind.u32 16 m.core.regs), (SV.v (Value.int IntKind.u32 (IntKind.wrap IntKind.u32 (m.core.pc + (4 : Int))))), (SV.arr IntKind.u32 12 m.core.csr), (SV.rd ETy.u8 m.mem), (SV.v (Value.int IntKind.u64 m.time)), (SV.rd ETy.u8 (List.append (List.drop 0 (List.take (Int.toNat (Int.ofNat (List.length m.out))) m.out)) [(IntKind.wrap IntKind.u8 x0)])), (SV.v (Value.bool m.halted))])) else (Tree.fail)) else (Tree.fail)) else (Tree.leaf (SV.agg [(SV.arr IntKind.u32 16 m.core.regs), (SV.v (Value.int IntKind.u32 (IntKind.wrap IntKind.u32 (m.core.pc + (4 : Int))))), (SV.arr IntKind.u32 12 m.core.csr), (SV.rd ETy.u8 m.mem), (SV.v (Value.int IntKind.u64 m.time)), (SV.rd ETy.u8 m.out), (SV.v (Value.bool m.halted))]))))))) := by kernel_rfl
section
attribute [local irreducible] evF evFL evFLs evFP
theorem a_priv_Execute (m : PMach) (i : PInstr) (hpre : m.out.length ≤ 1099511627776) (ok_m : okMach m) (ok_i : okInstr i) : (evF E_priv_Execute 60 43 (encArgs [.mach, .instr] (m, i, ()))).ends fun out_ => decO [.mach] out_ = some (K.priv m i) := by
  rw [t_priv_Execute, Tree.ends_holds]
  obtain ⟨a, b⟩ := okI_i32 ok_i.imm
  have e1 : IntKind.i64.wrap i.imm = i.imm := wrapI64 (by omega) (by omega)
  obtain ⟨g0, g1⟩ := K.get_ok ok_m.core.regs i.ra
  have e2 : Int.tmod (K.get m.core.regs i.ra) 256 = K.get m.core.regs i.ra % 256 := Int.tmod_eq_emod_of_nonneg g0
  simp only [Tree.holds_loop, Tree.holds_fork, Tree.holds_next, if_true, Tree.holds_cond, Tree.holds_letv, Tree.holds_leaf, Tree.holds_fail, decO, decA, decTup, decMach, decCore, decTrap, decInstr, decPart, decGuest, decConf, decEvent, decVcpu, decStep, bytesS, boolS, eventsS, intsS, guestsS, vcpusS, rowS, castL, Option.bind_some, Option.map_some, Option.some.injEq, Nat.beq_refl, beq_self_eq_true, Bool.and_self, cond_true, cond_false, eq_self, e1, e2, wrap8, wrap32, beq_iff_eq, beq_eq_false_iff_ne, bne_iff_ne, bne_eq_false_iff_eq, ne_eq, decide_eq_true_eq, decide_eq_false_iff_not, ble_true, ble_false, inRange_iff, inRange_false, List.drop_zero, Int.ofNat_eq_natCast, Int.toNat_natCast, List.take_length, List.append_eq, Bool.and_eq_true, decide_true, and_true, true_and, Int.emod_emod]
  repeat' (first | refine drop_ok ?_ | intro _ | with_reducible apply And.intro)
  all_goals first | omega | (simp_all [K.priv, K.adv]; done) | skip
  
theorem c_priv_Execute : SpecOk EB 43 S_priv_Execute := spec_sig ok_priv_Execute (n := 60) fun ⟨m, i, ⟨⟩⟩ h hok => a_priv_Execute m i (of_decide_eq_true h) (ok_mach (okSL_head hok)) (ok_instr (okSL_head (okSL_tail hok)))
end

/-! exec_Advance -/

def S_exec_Advance : Spec := sig [.core, .i .u32] [.core] (fun (c, by_, _) => { regs := c.regs, pc := (c.pc + by_) % 4294967296, csr := c.csr })
noncomputable def E_exec_Advance : Env := EB.adds []

theorem ok_exec_Advance : EnvOk E_exec_Advance := okEB.adds (l := _) trivial
theorem t_exec_Advance (c : PCore) (by_ : Int) : evF E_exec_Advance 60 74 (encArgs [.core, .i .u32] (c, by_, ())) = Tree.leaf (SV.agg [(SV.arr IntKind.u32 16 c.regs), (SV.v (Value.int IntKind.u32 (IntKind.wrap IntKind.u32 (c.pc + by_)))), (SV.arr IntKind.u32 12 c.csr)]) := by kernel_rfl
section
attribute [local irreducible] evF evFL evFLs evFP
theorem a_exec_Advance (c : PCore) (by_ : Int) (ok_c : okCore c) (ok_by_ : okI .u32 by_) : (evF E_exec_Advance 60 74 (encArgs [.core, .i .u32] (c, by_, ()))).ends fun out_ => decO [.core] out_ = some ({ regs := c.regs, pc := (c.pc + by_) % 4294967296, csr := c.csr }) := by
  rw [t_exec_Advance, Tree.ends_holds]
  simp only [Tree.holds_loop, Tree.holds_fork, Tree.holds_next, if_true, Tree.holds_cond, Tree.holds_letv, Tree.holds_leaf, Tree.holds_fail, decO, decA, decTup, decMach, decCore, decTrap, decInstr, decPart, decGuest, decConf, decEvent, decVcpu, decStep, bytesS, boolS, eventsS, intsS, guestsS, vcpusS, rowS, castL, Option.bind_some, Option.map_some, Option.some.injEq, Nat.beq_refl, beq_self_eq_true, Bool.and_self, cond_true, cond_false, eq_self, wrap32]
  
theorem c_exec_Advance : SpecOk EB 74 S_exec_Advance := spec_sig ok_exec_Advance (n := 60) fun ⟨c, by_, ⟨⟩⟩ h hok => a_exec_Advance c by_ (ok_core (okSL_head hok)) (ok_int (okSL_head (okSL_tail hok)))
end

/-! alu_LessSigned -/

def S_alu_LessSigned : Spec := sig [.i .u32, .i .u32] [.b] (fun (x, y, _) => decide (K.sgn x < K.sgn y))
noncomputable def E_alu_LessSigned : Env := EB.adds []

theorem ok_alu_LessSigned : EnvOk E_alu_LessSigned := okEB.adds (l := _) trivial
theorem t_alu_LessSigned (x : Int) (y : Int) : evF E_alu_LessSigned 60 139 (encArgs [.i .u32, .i .u32] (x, y, ())) = bif (decide ((IntKind.wrap IntKind.i32 x) < (IntKind.wrap IntKind.i32 y))) then (Tree.leaf (SV.b true)) else (Tree.leaf (SV.b false)) := by kernel_rfl
section
attribute [local irreducible] evF evFL evFLs evFP
theorem a_alu_LessSigned (x : Int) (y : Int) (ok_x : okI .u32 x) (ok_y : okI .u32 y) : (evF E_alu_LessSigned 60 139 (encArgs [.i .u32, .i .u32] (x, y, ()))).ends fun out_ => decO [.b] out_ = some (decide (K.sgn x < K.sgn y)) := by
  rw [t_alu_LessSigned, Tree.ends_holds]
  obtain ⟨x0, x1⟩ := okI_u32 ok_x
  obtain ⟨y0, y1⟩ := okI_u32 ok_y
  have e : ∀ z : Int, 0 ≤ z → z < 4294967296 → IntKind.i32.wrap z = K.sgn z := fun z h0 h1 => by
    unfold K.sgn
    simp only [IntKind.wrap, IntKind.bits, IntKind.signed, Bool.true_and, decide_eq_true_eq, Nat.reduceSub, Int.reducePow, ge_iff_le]
    (repeat' split) <;> omega
  simp only [Tree.holds_loop, Tree.holds_fork, Tree.holds_next, if_true, Tree.holds_cond, Tree.holds_letv, Tree.holds_leaf, Tree.holds_fail, decO, decA, decTup, decMach, decCore, decTrap, decInstr, decPart, decGuest, decConf, decEvent, decVcpu, decStep, bytesS, boolS, eventsS, intsS, guestsS, vcpusS, rowS, castL, Option.bind_some, Option.map_some, Option.some.injEq, Nat.beq_refl, beq_self_eq_true, Bool.and_self, cond_true, cond_false, eq_self, beq_iff_eq, beq_eq_false_iff_ne, bne_iff_ne, bne_eq_false_iff_eq, ne_eq, decide_eq_true_eq, decide_eq_false_iff_not, ble_true, ble_false, inRange_iff, inRange_false, e x x0 x1, e y y0 y1]
  repeat' (first | refine drop_ok ?_ | intro _ | with_reducible apply And.intro)
  all_goals simp_all
  
theorem c_alu_LessSigned : SpecOk EB 139 S_alu_LessSigned := spec_sig ok_alu_LessSigned (n := 60) fun ⟨x, y, ⟨⟩⟩ h hok => a_alu_LessSigned x y (ok_int (okSL_head hok)) (ok_int (okSL_head (okSL_tail hok)))
end

/-! alu_Eval -/

def S_alu_Eval : Spec := sig [.i .i64, .i .u32, .i .u32] [.i .u32] (fun (op, x, y, _) => K.alu op x y)
noncomputable def E_alu_Eval : Env := EB.adds [(139, S_alu_LessSigned)]

theorem ok_alu_Eval : EnvOk E_alu_Eval := okEB.adds (l := _) ⟨c_alu_LessSigned, trivial⟩
theorem t_alu_Eval (op : Int) (x : Int) (y : Int) : evF E_alu_Eval 60 117 (encArgs [.i .i64, .i .u32, .i .u32] (op, x, y, ())) = bif (BEq.beq op (1 : Int)) then (Tree.leaf (SV.v (Value.int IntKind.u32 (IntKind.wrap IntKind.u32 (x + y))))) else (bif (BEq.beq op (2 : Int)) then (Tree.leaf (SV.v (Value.int IntKind.u32 (IntKind.wrap IntKind.u32 (x - y))))) else (bif (BEq.beq op (3 : Int)) then (Tree.leaf (SV.v (Value.int IntKind.u32 (andI IntKind.u32 x y)))) else (bif (BEq.beq op (4 : Int)) then (Tree.leaf (SV.v (Value.int IntKind.u32 (orI IntKind.u32 x y)))) else (bif (BEq.beq op (5 : Int)) then (Tree.leaf (SV.v (Value.int IntKind.u32 (xorI IntKind.u32 x y)))) else (bif (BEq.beq op (6 : Int)) then (Tree.letv (okO [AT.b]) (decide ((K.sgn x) < (K.sgn y))) fun x0 => (bif x0 then (Tree.leaf (SV.v (Value.int IntKind.u32 (1 : Int)))) else (Tree.leaf (SV.v (Value.int IntKind.u32 (0 : Int)))))) else (bif (BEq.beq op (7 : Int)) then (bif (decide ((0 : Int) ≤ (andI IntKind.u32 y (31 : Int)))) then (Tree.leaf (SV.v (Value.int IntKind.u32 (IntKind.wrap IntKind.u32 (x * ((2 : Int) ^ (if ((Int.toNat (andI IntKind.u32 y (31 : Int))) ≤ 32) then (Int.toNat (andI IntKind.u32 y (31 : Int))) else 32))))))) else (Tree.fail)) else (bif (BEq.beq op (8 : Int)) then (bif (decide ((0 : Int) ≤ (andI IntKind.u32 y (31 : Int)))) then (Tree.leaf (SV.v (Value.int IntKind.u32 (Int.fdiv x ((2 : Int) ^ (if ((Int.toNat (andI IntKind.u32 y (31 : Int))) ≤ 32) then (Int.toNat (andI IntKind.u32 y (31 : Int))) else
 32)))))) else (Tree.fail)) else (Tree.leaf (SV.v (Value.int IntKind.u32 (0 : Int))))))))))) := by kernel_rfl
section
attribute [local irreducible] evF evFL evFLs evFP
theorem a_alu_Eval (op : Int) (x : Int) (y : Int) (ok_op : okI .i64 op) (ok_x : okI .u32 x) (ok_y : okI .u32 y) : (evF E_alu_Eval 60 117 (encArgs [.i .i64, .i .u32, .i .u32] (op, x, y, ()))).ends fun out_ => decO [.i .u32] out_ = some (K.alu op x y) := by
  rw [t_alu_Eval, Tree.ends_holds]
  obtain ⟨x0, x1⟩ := okI_u32 ok_x
  obtain ⟨y0, y1⟩ := okI_u32 ok_y
  have a31 : andI .u32 y 31 = y % 32 := by have := and_low32 5 (by omega) y0 y1; simpa using this
  have hle : (y % 32).toNat ≤ 32 := by omega
  have e7 : x * 2 ^ (y % 32).toNat = x * K.pow (y % 32) := by unfold K.pow; simp
  have e8 : x.fdiv (2 ^ (y % 32).toNat) = x / K.pow (y % 32) := by
    rw [Int.fdiv_eq_ediv_of_nonneg _ (Int.le_of_lt (Int.pow_pos (by omega)))]; unfold K.pow; simp
  simp only [Tree.holds_loop, Tree.holds_fork, Tree.holds_next, if_true, Tree.holds_cond, Tree.holds_letv, Tree.holds_leaf, Tree.holds_fail, decO, decA, decTup, decMach, decCore, decTrap, decInstr, decPart, decGuest, decConf, decEvent, decVcpu, decStep, bytesS, boolS, eventsS, intsS, guestsS, vcpusS, rowS, castL, Option.bind_some, Option.map_some, Option.some.injEq, Nat.beq_refl, beq_self_eq_true, Bool.and_self, cond_true, cond_false, eq_self, beq_iff_eq, beq_eq_false_iff_ne, bne_iff_ne, bne_eq_false_iff_eq, ne_eq, decide_eq_true_eq, decide_eq_false_iff_not, ble_true, ble_false, inRange_iff, inRange_false, wrap32, a31, if_pos hle, e7, e8]
  repeat' (first | refine drop_ok ?_ | intro _ | with_reducible apply And.intro)
  all_goals first | omega | (subst_vars; simp_all [K.alu]; done) | (simp_all [K.alu]; done)
  
theorem c_alu_Eval : SpecOk EB 117 S_alu_Eval := spec_sig ok_alu_Eval (n := 60) fun ⟨op, x, y, ⟨⟩⟩ h hok => a_alu_Eval op x y (ok_int (okSL_head hok)) (ok_int (okSL_head (okSL_tail hok))) (ok_int (okSL_head (okSL_tail (okSL_tail hok))))
end

/-! alu_BranchTaken -/

def S_alu_BranchTaken : Spec := sig [.i .i64, .i .u32, .i .u32] [.b] (fun (op, x, y, _) => K.taken op x y)
noncomputable def E_alu_BranchTaken : Env := EB.adds [(139, S_alu_LessSigned)]

theorem ok_alu_BranchTaken : EnvOk E_alu_BranchTaken := okEB.adds (l := _) ⟨c_alu_LessSigned, trivial⟩
theorem t_alu_BranchTaken (op : Int) (x : Int) (y : Int) : evF E_alu_BranchTaken 60 115 (encArgs [.i .i64, .i .u32, .i .u32] (op, x, y, ())) = bif (BEq.beq op (15 : Int)) then (bif (BEq.beq x y) then (Tree.leaf (SV.b true)) else (Tree.leaf (SV.b false))) else (bif (BEq.beq op (16 : Int)) then (bif (bne x y) then (Tree.leaf (SV.b true)) else (Tree.leaf (SV.b false))) else (bif (BEq.beq op (17 : Int)) then (Tree.letv (okO [AT.b]) (decide ((K.sgn x) < (K.sgn y))) fun x0 => (bif x0 then (Tree.leaf (SV.b true)) else (Tree.leaf (SV.b false)))) else (Tree.leaf (SV.b false)))) := by kernel_rfl
section
attribute [local irreducible] evF evFL evFLs evFP
theorem a_alu_BranchTaken (op : Int) (x : Int) (y : Int) (ok_op : okI .i64 op) (ok_x : okI .u32 x) (ok_y : okI .u32 y) : (evF E_alu_BranchTaken 60 115 (encArgs [.i .i64, .i .u32, .i .u32] (op, x, y, ()))).ends fun out_ => decO [.b] out_ = some (K.taken op x y) := by
  rw [t_alu_BranchTaken, Tree.ends_holds]
  simp only [Tree.holds_loop, Tree.holds_fork, Tree.holds_next, if_true, Tree.holds_cond, Tree.holds_letv, Tree.holds_leaf, Tree.holds_fail, decO, decA, decTup, decMach, decCore, decTrap, decInstr, decPart, decGuest, decConf, decEvent, decVcpu, decStep, bytesS, boolS, eventsS, intsS, guestsS, vcpusS, rowS, castL, Option.bind_some, Option.map_some, Option.some.injEq, Nat.beq_refl, beq_self_eq_true, Bool.and_self, cond_true, cond_false, eq_self, beq_iff_eq, beq_eq_false_iff_ne, bne_iff_ne, bne_eq_false_iff_eq, ne_eq, decide_eq_true_eq, decide_eq_false_iff_not, ble_true, ble_false, inRange_iff, inRange_false, K.taken]
  repeat' (first | refine drop_ok ?_ | intro _ | with_reducible apply And.intro)
  all_goals simp_all
  
theorem c_alu_BranchTaken : SpecOk EB 115 S_alu_BranchTaken := spec_sig ok_alu_BranchTaken (n := 60) fun ⟨op, x, y, ⟨⟩⟩ h hok => a_alu_BranchTaken op x y (ok_int (okSL_head hok)) (ok_int (okSL_head (okSL_tail hok))) (ok_int (okSL_head (okSL_tail (okSL_tail hok))))
end

/-! mem_Store -/

def S_mem_Store : Spec := sig [.rd .u8, .i .u32, .i .i64, .i .u32] [.rd .u8, .b] (fun (m, a, n, v, _) => if K.inR m.length a n = true then (K.st m a n v, true) else (m, false)) (pre := fun (m, a, n, v, _) => decide ((n = 1 ∨ n = 4) ∧ m.length ≤ 1099511627776))
noncomputable def E_mem_Store : Env := EB.adds [(99, S_mem_InRange)]

theorem ok_mem_Store : EnvOk E_mem_Store := okEB.adds (l := _) ⟨c_mem_InRange, trivial⟩
theorem t1_c_mem_Store (m : List Int) (a v : Int) : evF E_mem_Store 60 138 [.rd .u8 m, .v (.int .u32 a), .v (.int .i64 1), .v (.int .u32 v)] = 
  bif (decide (And ((0 : Int) ≤ (1 : Int)) (And ((1 : Int) ≤ (1099511627776 : Int)) ((0 : Int) ≤ (Int.ofNat (List.length m)))))) then
    (Tree.letv (okO [AT.b]) (K.inR (Int.ofNat (List.length m)) a (1 : Int)) fun x0 =>
    (bif x0 then
      (bif (Nat.beq (List.length m) 0) then
        (Tree.fork
          (Tree.fail)
          (bif (Bool.or (Bool.not (Nat.beq (List.length m) 0)) true) then
            (bif (Nat.ble ((0 + (List.length m)) * 1) 140737488355328) then
              (bif (inRange (IntKind.wrap IntKind.i64 ((IntKind.wrap IntKind.i64 a) + (0 : Int))) (List.length m)) then
                (Tree.leaf (SV.tup [(SV.rd ETy.u8 (List.set m (Int.toNat (IntKind.wrap IntKind.i64 ((IntKind.wrap IntKind.i64 a) + (0 : Int)))) (IntKind.wrap IntKind.u8 (Int.fdiv v (1 : Int))))), (SV.b true)]))
              else
                (Tree.fail))
            else
              (Tree.fail))
          else
            (Tree.fail)))
      else
        (bif (Bool.or (Bool.not (Nat.beq (List.length m) 0)) true) then
          (bif (Nat.ble ((0 + (List.length m)) * 1) 140737488355328) then
            (bif (inRange (IntKind.wrap IntKind.i64 ((IntKind.wrap IntKind.i64 a) + (0 : Int))) (List.length m)) then
              (Tree.leaf (SV.tup [(SV.rd ETy.u8 (List.set m (Int.toNat (IntKind.wrap IntKind.i64 ((IntKind.wrap IntKind.i64 a) + (0 : Int)))) (IntKind.wrap IntKind.u8 (Int.fdiv v (1 : Int))))), (SV.b true)]))
            else
              (Tree.fail))
          else
            (Tree.fail))
        else
          (Tree.fail)))
    else
      (Tree.leaf (SV.tup [(SV.rd ETy.u8 m), (SV.b false)]))))
  else
    (Tree.fail) := by kernel_rfl
theorem t4_c_mem_Store (m : List Int) (a v : Int) : evF E_mem_Store 60 138 [.rd .u8 m, .v (.int .u32 a), .v (.int .i64 4), .v (.int .u32 v)] = 
  bif (decide (And ((0 : Int) ≤ (4 : Int)) (And ((4 : Int) ≤ (1099511627776 : Int)) ((0 : Int) ≤ (Int.ofNat (List.length m)))))) then
    (Tree.letv (okO [AT.b]) (K.inR (Int.ofNat (List.length m)) a (4 : Int)) fun x0 =>
    (bif x0 then
      (bif (Nat.beq (List.length m) 0) then
        (Tree.fork
          (Tree.fail)
          (bif (Bool.or (Bool.not (Nat.beq (List.length m) 0)) true) then
            (bif (Nat.ble ((0 + (List.length m)) * 1) 140737488355328) then
              (bif (inRange (IntKind.wrap IntKind.i64 ((IntKind.wrap IntKind.i64 a) + (0 : Int))) (List.length m)) then
                (bif (inRange (IntKind.wrap IntKind.i64 ((IntKind.wrap IntKind.i64 a) + (1 : Int))) (List.length (List.set m (Int.toNat (IntKind.wrap IntKind.i64 ((IntKind.wrap IntKind.i64 a) + (0 : Int)))) (IntKind.wrap IntKind.u8 (Int.fdiv v (1 : Int)))))) then
                  (bif (inRange (IntKind.wrap IntKind.i64 ((IntKind.wrap IntKind.i64 a) + (2 : Int))) (List.length (List.set (List.set m (Int.toNat (IntKind.wrap IntKind.i64 ((IntKind.wrap IntKind.i64 a) + (0 : Int)))) (IntKind.wrap IntKind.u8 (Int.fdiv v (1 : Int)))) (Int.toNat (IntKind.wrap IntKind.i64 ((IntKind.wrap IntKind.i64 a) + (1 : Int)))) (IntKind.wrap IntKind.u8 (Int.fdiv v (256 : Int)))))) then
                    (bif (inRange (IntKind.wrap IntKind.i64 ((IntKind.wrap IntKind.i64 a) + (3 : Int))) (List.length (List.set (List.set (List.set m (Int.toNat (IntKind.wrap IntKind.i64 ((IntKind.wrap IntKind.i64 a) + (0 : Int)))) (IntKind.wrap IntKind.u8 (Int.fdiv v (1 : Int)))) (Int.toNat (IntKind.wrap IntKind.i64 ((IntKind.wrap IntKind.i64 a) + (1 : Int)))) (IntKind.wrap IntKind.u8 (Int.fdiv v (256 : Int)))) (Int.toNat (IntKind.wrap IntKind.i64 ((IntKind.wrap IntKind.i64 a) + (2 : Int)))) (IntKind.wrap IntKind.u8 (Int.fdiv v (65536 : Int)))))) then
                      (Tree.leaf (SV.tup [(SV.rd ETy.u8 (List.set (List.set (List.set (List.set m (Int.toNat (IntKind.wrap IntKind.i64 ((IntKind.wrap IntKind.i64 a) + (0 : Int)))) (IntKind.wrap IntKind.u8 (Int.fdiv v (1 : Int)))) (Int.toNat (IntKind.wrap IntKind.i64 ((IntKind.wrap IntKind.i64 a) + (1 : Int)))) (IntKind.wrap IntKind.u8 (Int.fdiv v (256 : Int)))) (Int.toNat (IntKind.wrap IntKind.i64 ((IntKind.wrap IntKind.i64 a) + (2 : Int)))) (IntKind.wrap IntKind.u8 (Int.fdiv v (65536 : Int)))) (Int.toNat (IntKind.wrap IntKind.i64 ((IntKind.wrap IntKind.i64 a) + (3 : Int)))) (IntKind.wrap IntKind.u8 (Int.fdiv v (16777216 : Int))))), (SV.b true)]))
                    else
                      (Tree.fail))
                  else
                    (Tree.fail))
                else
                  (Tree.fail))
              else
                (Tree.fail))
            else
              (Tree.fail))
          else
            (Tree.fail)))
      else
        (bif (Bool.or (Bool.not (Nat.beq (List.length m) 0)) true) then
          (bif (Nat.ble ((0 + (List.length m)) * 1) 140737488355328) then
            (bif (inRange (IntKind.wrap IntKind.i64 ((IntKind.wrap IntKind.i64 a) + (0 : Int))) (List.length m)) then
              (bif (inRange (IntKind.wrap IntKind.i64 ((IntKind.wrap IntKind.i64 a) + (1 : Int))) (List.length (List.set m (Int.toNat (IntKind.wrap IntKind.i64 ((IntKind.wrap IntKind.i64 a) + (0 : Int)))) (IntKind.wrap IntKind.u8 (Int.fdiv v (1 : Int)))))) then
                (bif (inRange (IntKind.wrap IntKind.i64 ((IntKind.wrap IntKind.i64 a) + (2 : Int))) (List.length (List.set (List.set m (Int.toNat (IntKind.wrap IntKind.i64 ((IntKind.wrap IntKind.i64 a) + (0 : Int)))) (IntKind.wrap IntKind.u8 (Int.fdiv v (1 : Int)))) (Int.toNat (IntKind.wrap IntKind.i64 ((IntKind.wrap IntKind.i64 a) + (1 : Int)))) (IntKind.wrap IntKind.u8 (Int.fdiv v (256 : Int)))))) then
                  (bif (inRange (IntKind.wrap IntKind.i64 ((IntKind.wrap IntKind.i64 a) + (3 : Int))) (List.length (List.set (List.set (List.set m (Int.toNat (IntKind.wrap IntKind.i64 ((IntKind.wrap IntKind.i64 a) + (0 : Int)))) (IntKind.wrap IntKind.u8 (Int.fdiv v (1 : Int)))) (Int.toNat (IntKind.wrap IntKind.i64 ((IntKind.wrap IntKind.i64 a) + (1 : Int)))) (IntKind.wrap IntKind.u8 (Int.fdiv v (256 : Int)))) (Int.toNat (IntKind.wrap IntKind.i64 ((IntKind.wrap IntKind.i64 a) + (2 : Int)))) (IntKind.wrap IntKind.u8 (Int.fdiv v (65536 : Int)))))) then
                    (Tree.leaf (SV.tup [(SV.rd ETy.u8 (List.set (List.set (List.set (List.set m (Int.toNat (IntKind.wrap IntKind.i64 ((IntKind.wrap IntKind.i64 a) + (0 : Int)))) (IntKind.wrap IntKind.u8 (Int.fdiv v (1 : Int)))) (Int.toNat (IntKind.wrap IntKind.i64 ((IntKind.wrap IntKind.i64 a) + (1 : Int)))) (IntKind.wrap IntKind.u8 (Int.fdiv v (256 : Int)))) (Int.toNat (IntKind.wrap IntKind.i64 ((IntKind.wrap IntKind.i64 a) + (2 : Int)))) (IntKind.wrap IntKind.u8 (Int.fdiv v (65536 : Int)))) (Int.toNat (IntKind.wrap IntKind.i64 ((IntKind.wrap IntKind.i64 a) + (3 : Int)))) (IntKind.wrap IntKind.u8 (Int.fdiv v (16777216 : Int))))), (SV.b true)]))
                  else
                    (Tree.fail))
                else
                  (Tree.fail))
              else
                (Tree.fail))
            else
              (Tree.fail))
          else
            (Tree.fail))
        else
          (Tree.fail)))
    else
      (Tree.leaf (SV.tup [(SV.rd ETy.u8 m), (SV.b false)]))))
  else
    (Tree.fail) := by kernel_rfl
theorem a1_c_mem_Store (m : List Int) (a v : Int) (hm : m.length ≤ 1099511627776) (ok_m : okBytes m) (ok_a : okI .u32 a) (ok_v : okI .u32 v) : (evF E_mem_Store 60 138 [.rd .u8 m, .v (.int .u32 a), .v (.int .i64 1), .v (.int .u32 v)]).ends fun out_ => decO [.rd .u8, .b] out_ = some (if K.inR m.length a 1 = true then (K.st m a 1 v, true) else (m, false)) := by
  rw [t1_c_mem_Store, Tree.ends_holds]
  obtain ⟨a0, a1⟩ := okI_u32 ok_a
  obtain ⟨v0, v1⟩ := okI_u32 ok_v
  have ew : IntKind.i64.wrap a = a := wrapI64 (by omega) (by omega)
  have i0 : IntKind.i64.wrap (a + 0) = a := by rw [wrapI64 (by omega) (by omega)]; omega
  have s1 : K.inR m.length a 1 = true → K.st m a 1 v = m.set a.toNat (v % 256) := fun _ => rfl
  have hr : K.inR m.length a 1 = true ↔ a + 1 ≤ (m.length : Int) := by simp [K.inR]
  have d0 : v.fdiv 1 = v := by simp
  have hz : m.length.beq 0 = true → m.length = 0 := fun h => Nat.eq_of_beq_eq_true h
  simp only [Tree.holds_loop, Tree.holds_fork, Tree.holds_next, if_true, Tree.holds_cond, Tree.holds_letv, Tree.holds_leaf, Tree.holds_fail, decO, decA, decTup, decMach, decCore, decTrap, decInstr, decPart, decGuest, decConf, decEvent, decVcpu, decStep, bytesS, boolS, eventsS, intsS, guestsS, vcpusS, rowS, castL, Option.bind_some, Option.map_some, Option.some.injEq, Nat.beq_refl, beq_self_eq_true, Bool.and_self, cond_true, cond_false, eq_self, beq_iff_eq, beq_eq_false_iff_ne, bne_iff_ne, bne_eq_false_iff_eq, ne_eq, decide_eq_true_eq, decide_eq_false_iff_not, ble_true, ble_false, inRange_iff, inRange_false, Int.ofNat_eq_natCast, ew, i0, wrap8, d0]
  repeat' (first | refine drop_ok ?_ | intro _ | with_reducible apply And.intro)
  all_goals first | (rw [if_pos (by assumption)]; rfl) | (rw [if_neg (by simp_all)]; done) | omega | (exfalso; have := hr.1 (by assumption); omega) | (exfalso; have q := hr.1 (by assumption); have := hz (by assumption); omega) | (rename_i z; simp at z; done)
theorem a4_c_mem_Store (m : List Int) (a v : Int) (hm : m.length ≤ 1099511627776) (ok_m : okBytes m) (ok_a : okI .u32 a) (ok_v : okI .u32 v) : (evF E_mem_Store 60 138 [.rd .u8 m, .v (.int .u32 a), .v (.int .i64 4), .v (.int .u32 v)]).ends fun out_ => decO [.rd .u8, .b] out_ = some (if K.inR m.length a 4 = true then (K.st m a 4 v, true) else (m, false)) := by
  rw [t4_c_mem_Store, Tree.ends_holds]
  obtain ⟨a0, a1⟩ := okI_u32 ok_a
  obtain ⟨v0, v1⟩ := okI_u32 ok_v
  have ew : IntKind.i64.wrap a = a := wrapI64 (by omega) (by omega)
  have i0 : IntKind.i64.wrap (a + 0) = a := by rw [wrapI64 (by omega) (by omega)]; omega
  have i1 : IntKind.i64.wrap (a + 1) = a + 1 := wrapI64 (by omega) (by omega)
  have i2 : IntKind.i64.wrap (a + 2) = a + 2 := wrapI64 (by omega) (by omega)
  have i3 : IntKind.i64.wrap (a + 3) = a + 3 := wrapI64 (by omega) (by omega)
  have n1 : (a + 1).toNat = a.toNat + 1 := by omega
  have n2 : (a + 2).toNat = a.toNat + 2 := by omega
  have n3 : (a + 3).toNat = a.toNat + 3 := by omega
  have hr : K.inR m.length a 4 = true ↔ a + 4 ≤ (m.length : Int) := by simp [K.inR]
  have d0 : v.fdiv 1 = v := by simp
  have hz : m.length.beq 0 = true → m.length = 0 := fun h => Nat.eq_of_beq_eq_true h
  have d1 : v.fdiv 256 = v / 256 := Int.fdiv_eq_ediv_of_nonneg _ (by omega)
  have d2 : v.fdiv 65536 = v / 65536 := Int.fdiv_eq_ediv_of_nonneg _ (by omega)
  have d3 : v.fdiv 16777216 = v / 16777216 := Int.fdiv_eq_ediv_of_nonneg _ (by omega)
  simp only [Tree.holds_loop, Tree.holds_fork, Tree.holds_next, if_true, Tree.holds_cond, Tree.holds_letv, Tree.holds_leaf, Tree.holds_fail, decO, decA, decTup, decMach, decCore, decTrap, decInstr, decPart, decGuest, decConf, decEvent, decVcpu, decStep, bytesS, boolS, eventsS, intsS, guestsS, vcpusS, rowS, castL, Option.bind_some, Option.map_some, Option.some.injEq, Nat.beq_refl, beq_self_eq_true, Bool.and_self, cond_true, cond_false, eq_self, beq_iff_eq, beq_eq_false_iff_ne, bne_iff_ne, bne_eq_false_iff_eq, ne_eq, decide_eq_true_eq, decide_eq_false_iff_not, ble_true, ble_false, inRange_iff, inRange_false, Int.ofNat_eq_natCast, ew, i0, i1, i2, i3, n1, n2, n3, wrap8, d0, d1, d2, d3, List.length_set]
  repeat' (first | refine drop_ok ?_ | intro _ | with_reducible apply And.intro)
  all_goals first | (rw [if_pos (by assumption)]; rfl) | (rw [if_neg (by simp_all)]; done) | omega | (exfalso; have := hr.1 (by assumption); omega) | (exfalso; have q := hr.1 (by assumption); have := hz (by assumption); omega) | (rename_i z; simp at z; done) | trace_state
theorem c_mem_Store : SpecOk EB 138 S_mem_Store := spec_sig ok_mem_Store (n := 60) fun ⟨m, a, n, v, ⟨⟩⟩ h hok => by
  have h := of_decide_eq_true h
  have o1 := ok_bytes (okSL_head hok)
  have o2 := ok_int (okSL_head (okSL_tail hok))
  have o3 := ok_int (okSL_head (okSL_tail (okSL_tail (okSL_tail hok))))
  rcases h with ⟨h | h, hm⟩
  · have h : n = 1 := h
    subst h; exact a1_c_mem_Store m a v hm o1 o2 o3
  · have h : n = 4 := h
    subst h; exact a4_c_mem_Store m a v hm o1 o2 o3

/-! fetch_Store -/

def S_fetch_Store : Spec := sig [.mach, .i .u32, .i .i64, .i .u32] [.mach, .trap] (fun (m, a, n, v, _) => K.store m a n v) (pre := fun (m, a, n, v, _) => decide ((n = 1 ∨ n = 4) ∧ m.mem.length ≤ 1099511627776))
noncomputable def E_fetch_Store : Env := EB_2.adds [(118, S_fetch_Resolve), (138, S_mem_Store)]

theorem ok_fetch_Store : EnvOk E_fetch_Store := okEB_2.adds (l := _) ⟨c_fetch_Resolve, (up_to_2 c_mem_Store), trivial⟩
theorem t_fetch_Store (m : PMach) (a : Int) (n : Int) (v : Int) : evF E_fetch_Store 60 114 (encArgs [.mach, .i .u32, .i .i64, .i .u32] (m, a, n, v, ())) = bif (decide (Or (n = (1 : Int)) (n = (4 : Int)))) then (Tree.letv (okO [(AT.i IntKind.u32), AT.trap]) (K.cell m a n) fun x0 => (bif (Bool.not (Bool.and (BEq.beq x0.snd.cause (0 : Int)) (Bool.and (BEq.beq x0.snd.tval (0 : Int)) true))) then (Tree.leaf (SV.tup [(SV.agg [(SV.arr IntKind.u32 16 m.core.regs), (SV.v (Value.int IntKind.u32 m.core.pc)), (SV.arr IntKind.u32 12 m.core.csr), (SV.rd ETy.u8 m.mem), (SV.v (Value.int IntKind.u64 m.time)), (SV.rd ETy.u8 m.out), (SV.v (Value.bool m.halted))]), (SV.agg [(SV.v (Value.int IntKind.i64 x0.snd.cause)), (SV.v (Value.int IntKind.u32 x0.snd.tval))])])) else (bif (decide (And (Or (n = (1 : Int)) (n = (4 : Int))) ((List.length m.mem) ≤ 1099511627776))) then (Tree.letv (okO [(AT.rd ETy.u8), AT.b]) (if ((K.inR (Int.ofNat (List.length m.mem)) x0.fst n) = true) then ((K.st m.mem x0.fst n v), true) else (m.mem, false)) fun x1 => (bif x1.snd then (Tree.leaf (SV.tup [(SV.agg [(SV.arr IntKind.u32 16 m.core.regs), (SV.v (Value.int IntKind.u32 m.core.pc)), (SV.arr IntKind.u32 12 m.core.csr), (SV.rd ETy.u8 x1.fst), (SV.v (Value.int IntKind.u64 m.time)), (SV.rd ETy.u8 m.out), (SV.v (Value.bool m.halted))]), (SV.agg [(SV.v (Value.int IntKind.i64 (0 : Int))), (SV.v (Value.int IntKind.u32 (0 : Int)))])])) else (Tree.leaf (SV.tup [(SV.agg [(SV.arr IntKind.u32 16 m.core.regs), (SV.v (Value.int
 IntKind.u32 m.core.pc)), (SV.arr IntKind.u32 12 m.core.csr), (SV.rd ETy.u8 x1.fst), (SV.v (Value.int IntKind.u64 m.time)), (SV.rd ETy.u8 m.out), (SV.v (Value.bool m.halted))]), (SV.agg [(SV.v (Value.int IntKind.i64 (0 : Int))), (SV.v (Value.int IntKind.u32 (0 : Int)))])])))) else (Tree.fail)))) else (Tree.fail) := by kernel_rfl
section
attribute [local irreducible] evF evFL evFLs evFP
theorem a_fetch_Store (m : PMach) (a : Int) (n : Int) (v : Int) (hpre : (n = 1 ∨ n = 4) ∧ m.mem.length ≤ 1099511627776) (ok_m : okMach m) (ok_a : okI .u32 a) (ok_n : okI .i64 n) (ok_v : okI .u32 v) : (evF E_fetch_Store 60 114 (encArgs [.mach, .i .u32, .i .i64, .i .u32] (m, a, n, v, ()))).ends fun out_ => decO [.mach, .trap] out_ = some (K.store m a n v) := by
  rw [t_fetch_Store, Tree.ends_holds]
  obtain ⟨a0, a1⟩ := okI_u32 ok_a
  have hr := fun h => cell_range ok_m.core (a := a) (n := n) a0 (by omega) h
  simp only [Tree.holds_loop, Tree.holds_fork, Tree.holds_next, if_true, Tree.holds_cond, Tree.holds_letv, Tree.holds_leaf, Tree.holds_fail, decO, decA, decTup, decMach, decCore, decTrap, decInstr, decPart, decGuest, decConf, decEvent, decVcpu, decStep, bytesS, boolS, eventsS, intsS, guestsS, vcpusS, rowS, castL, Option.bind_some, Option.map_some, Option.some.injEq, Nat.beq_refl, beq_self_eq_true, Bool.and_self, cond_true, cond_false, eq_self, beq_iff_eq, beq_eq_false_iff_ne, bne_iff_ne, bne_eq_false_iff_eq, ne_eq, decide_eq_true_eq, decide_eq_false_iff_not, ble_true, ble_false, inRange_iff, inRange_false, Int.ofNat_eq_natCast, K.store]
  by_cases h : (K.cell m a n).2.cause = 0
  · have ht := cell_zero h
    have hi : K.inR m.mem.length (K.cell m a n).1 n = true := by have := hr h; simp only [K.inR, decide_eq_true_eq]; omega
    simp only [h, ht, hi, if_true]
    simp [hpre]
  · simp [h, hpre]
  
theorem c_fetch_Store : SpecOk EB_2 114 S_fetch_Store := spec_sig ok_fetch_Store (n := 60) fun ⟨m, a, n, v, ⟨⟩⟩ h hok => a_fetch_Store m a n v (of_decide_eq_true h) (ok_mach (okSL_head hok)) (ok_int (okSL_head (okSL_tail hok))) (ok_int (okSL_head (okSL_tail (okSL_tail hok)))) (ok_int (okSL_head (okSL_tail (okSL_tail (okSL_tail hok)))))
end

/-! exec_at -/

def S_exec_at : Spec := sig [.pstep] [.i .u32] (fun (s, _) => (s.x + s.i.imm % 4294967296) % 4294967296)
noncomputable def E_exec_at : Env := EB.adds []

theorem ok_exec_at : EnvOk E_exec_at := okEB.adds (l := _) trivial
theorem t_exec_at (s : PStep) : evF E_exec_at 60 112 (encArgs [.pstep] (s, ())) = Tree.leaf (SV.v (Value.int IntKind.u32 (IntKind.wrap IntKind.u32 (s.x + (IntKind.wrap IntKind.u32 s.i.imm))))) := by kernel_rfl
section
attribute [local irreducible] evF evFL evFLs evFP
theorem a_exec_at (s : PStep) (ok_s : okS (encA (.pstep) s)) : (evF E_exec_at 60 112 (encArgs [.pstep] (s, ()))).ends fun out_ => decO [.i .u32] out_ = some ((s.x + s.i.imm % 4294967296) % 4294967296) := by
  rw [t_exec_at, Tree.ends_holds]
  simp only [Tree.holds_loop, Tree.holds_fork, Tree.holds_next, if_true, Tree.holds_cond, Tree.holds_letv, Tree.holds_leaf, Tree.holds_fail, decO, decA, decTup, decMach, decCore, decTrap, decInstr, decPart, decGuest, decConf, decEvent, decVcpu, decStep, bytesS, boolS, eventsS, intsS, guestsS, vcpusS, rowS, castL, Option.bind_some, Option.map_some, Option.some.injEq, Nat.beq_refl, beq_self_eq_true, Bool.and_self, cond_true, cond_false, eq_self, wrap32]
  
theorem c_exec_at : SpecOk EB 112 S_exec_at := spec_sig ok_exec_at (n := 60) fun ⟨s, ⟨⟩⟩ h hok => a_exec_at s (okSL_head hok)
end

/-! exec_size -/

def S_exec_size : Spec := sig [.pstep] [.i .i64] (fun (s, _) => if s.i.op = 13 ∨ s.i.op = 14 then 1 else 4)
noncomputable def E_exec_size : Env := EB.adds []

theorem ok_exec_size : EnvOk E_exec_size := okEB.adds (l := _) trivial
theorem t_exec_size (s : PStep) : evF E_exec_size 60 113 (encArgs [.pstep] (s, ())) = bif (BEq.beq s.i.op (13 : Int)) then (Tree.leaf (SV.v (Value.int IntKind.i64 (1 : Int)))) else (bif (BEq.beq s.i.op (14 : Int)) then (Tree.leaf (SV.v (Value.int IntKind.i64 (1 : Int)))) else (Tree.leaf (SV.v (Value.int IntKind.i64 (4 : Int))))) := by kernel_rfl
section
attribute [local irreducible] evF evFL evFLs evFP
theorem a_exec_size (s : PStep) (ok_s : okS (encA (.pstep) s)) : (evF E_exec_size 60 113 (encArgs [.pstep] (s, ()))).ends fun out_ => decO [.i .i64] out_ = some (if s.i.op = 13 ∨ s.i.op = 14 then 1 else 4) := by
  rw [t_exec_size, Tree.ends_holds]
  simp only [Tree.holds_loop, Tree.holds_fork, Tree.holds_next, if_true, Tree.holds_cond, Tree.holds_letv, Tree.holds_leaf, Tree.holds_fail, decO, decA, decTup, decMach, decCore, decTrap, decInstr, decPart, decGuest, decConf, decEvent, decVcpu, decStep, bytesS, boolS, eventsS, intsS, guestsS, vcpusS, rowS, castL, Option.bind_some, Option.map_some, Option.some.injEq, Nat.beq_refl, beq_self_eq_true, Bool.and_self, cond_true, cond_false, eq_self, beq_iff_eq, beq_eq_false_iff_ne, bne_iff_ne, bne_eq_false_iff_eq, ne_eq, decide_eq_true_eq, decide_eq_false_iff_not, ble_true, ble_false, inRange_iff, inRange_false]
  repeat' (first | refine drop_ok ?_ | intro _ | with_reducible apply And.intro)
  all_goals first | (rw [if_pos (by omega)]; done) | (rw [if_neg (by omega)]; done)
  
theorem c_exec_size : SpecOk EB 113 S_exec_size := spec_sig ok_exec_size (n := 60) fun ⟨s, ⟨⟩⟩ h hok => a_exec_size s (okSL_head hok)
end

/-! exec_far -/

def S_exec_far : Spec := sig [.pstep] [.i .u32] (fun (s, _) => 4 * (s.i.imm % 4294967296) % 4294967296)
noncomputable def E_exec_far : Env := EB.adds []

theorem ok_exec_far : EnvOk E_exec_far := okEB.adds (l := _) trivial
theorem t_exec_far (s : PStep) : evF E_exec_far 60 116 (encArgs [.pstep] (s, ())) = Tree.leaf (SV.v (Value.int IntKind.u32 (IntKind.wrap IntKind.u32 ((4 : Int) * (IntKind.wrap IntKind.u32 s.i.imm))))) := by kernel_rfl
section
attribute [local irreducible] evF evFL evFLs evFP
theorem a_exec_far (s : PStep) (ok_s : okS (encA (.pstep) s)) : (evF E_exec_far 60 116 (encArgs [.pstep] (s, ()))).ends fun out_ => decO [.i .u32] out_ = some (4 * (s.i.imm % 4294967296) % 4294967296) := by
  rw [t_exec_far, Tree.ends_holds]
  simp only [Tree.holds_loop, Tree.holds_fork, Tree.holds_next, if_true, Tree.holds_cond, Tree.holds_letv, Tree.holds_leaf, Tree.holds_fail, decO, decA, decTup, decMach, decCore, decTrap, decInstr, decPart, decGuest, decConf, decEvent, decVcpu, decStep, bytesS, boolS, eventsS, intsS, guestsS, vcpusS, rowS, castL, Option.bind_some, Option.map_some, Option.some.injEq, Nat.beq_refl, beq_self_eq_true, Bool.and_self, cond_true, cond_false, eq_self, wrap32]
  
theorem c_exec_far : SpecOk EB 116 S_exec_far := spec_sig ok_exec_far (n := 60) fun ⟨s, ⟨⟩⟩ h hok => a_exec_far s (okSL_head hok)
end

/-! exec_Execute -/

def S_exec_Execute : Spec := sig [.mach, .instr] [.mach, .trap] (fun (m, i, _) => K.exec m i) (pre := fun (m, i, _) => decide (1 ≤ i.op ∧ i.op ≤ 20 ∧ m.mem.length ≤ 1099511627776))
noncomputable def E_exec_Execute : Env := EB_1_2.adds [(69, S_regs_Get), (71, S_regs_Set), (74, S_exec_Advance), (117, S_alu_Eval), (115, S_alu_BranchTaken), (84, S_fetch_Load), (114, S_fetch_Store), (82, S_isa_FormatOf), (112, S_exec_at), (113, S_exec_size), (116, S_exec_far)]

theorem ok_exec_Execute : EnvOk E_exec_Execute := okEB_1_2.adds (l := _) ⟨(up_to_1_2 c_regs_Get), (up_to_1_2 c_regs_Set), (up_to_1_2 c_exec_Advance), (up_to_1_2 c_alu_Eval), (up_to_1_2 c_alu_BranchTaken), (up_2_to_1_2 c_fetch_Load), (up_2_to_1_2 c_fetch_Store), (up_1_to_1_2 c_isa_FormatOf), (up_to_1_2 c_exec_at), (up_to_1_2 c_exec_size), (up_to_1_2 c_exec_far), trivial⟩
theorem t_exec_Execute (m : PMach) (i : PInstr) : evF E_exec_Execute 60 44 (encArgs [.mach, .instr] (m, i, ())) = Tree.letv (okO [(AT.i IntKind.u32)]) (K.get m.core.regs i.ra) fun x0 => (Tree.letv (okO [(AT.i IntKind.u32)]) (K.get m.core.regs i.rb) fun x1 => (Tree.letv (okO [(AT.i IntKind.u32)]) (K.get m.core.regs i.rd) fun x2 => (bif (BEq.beq i.op (9 : Int)) then (Tree.letv (okO [(AT.i IntKind.u32)]) ((x0 + (i.imm % (4294967296 : Int))) % (4294967296 : Int)) fun x3 => (Tree.letv (okO [(AT.a IntKind.u32 16)]) (K.put m.core.regs i.rd x3) fun x4 => (Tree.letv (okO [AT.core]) (PCore.mk x4 ((m.core.pc + (4 : Int)) % (4294967296 : Int)) m.core.csr) fun x5 => (Tree.leaf (SV.tup [(SV.agg [(SV.arr IntKind.u32 16 x5.regs), (SV.v (Value.int IntKind.u32 x5.pc)), (SV.arr IntKind.u32 12 x5.csr), (SV.rd ETy.u8 m.mem), (SV.v (Value.int IntKind.u64 m.time)), (SV.rd ETy.u8 m.out), (SV.v (Value.bool m.halted))]), (SV.agg [(SV.v (Value.int IntKind.i64 (0 : Int))), (SV.v (Value.int IntKind.u32 (0 : Int)))])]))))) else (bif (BEq.beq i.op (10 : Int)) then (Tree.letv (okO [(AT.a IntKind.u32 16)]) (K.put m.core.regs i.rd (IntKind.wrap IntKind.u32 ((IntKind.wrap IntKind.u32 i.imm) * (16384 : Int)))) fun x3 => (Tree.letv (okO [AT.core]) (PCore.mk x3 ((m.core.pc + (4 : Int)) % (4294967296 : Int)) m.core.csr) fun x4 => (Tree.leaf (SV.tup [(SV.agg [(SV.arr IntKind.u32 16 x4.regs), (SV.v (Value.int IntKind.u32 x4.pc)), (SV.arr IntKind.u32 12 x4.csr), (SV.rd ETy.u8 m.mem), (SV.v (Value.int IntKind.u64
 m.time)), (SV.rd ETy.u8 m.out), (SV.v (Value.bool m.halted))]), (SV.agg [(SV.v (Value.int IntKind.i64 (0 : Int))), (SV.v (Value.int IntKind.u32 (0 : Int)))])])))) else (bif (BEq.beq i.op (11 : Int)) then (Tree.letv (okO [(AT.i IntKind.u32)]) ((x0 + (i.imm % (4294967296 : Int))) % (4294967296 : Int)) fun x3 => (Tree.letv (okO [(AT.i IntKind.i64)]) (if (Or (i.op = (13 : Int)) (i.op = (14 : Int))) then (1 : Int) else (4 : Int)) fun x4 => (bif (decide (Or (x4 = (1 : Int)) (x4 = (4 : Int)))) then (Tree.letv (okO [(AT.i IntKind.u32), AT.trap]) (K.load m x3 x4) fun x5 => (bif (BEq.beq x5.snd.cause (0 : Int)) then (Tree.letv (okO [(AT.a IntKind.u32 16)]) (K.put m.core.regs i.rd x5.fst) fun x6 => (Tree.letv (okO [AT.core]) (PCore.mk x6 ((m.core.pc + (4 : Int)) % (4294967296 : Int)) m.core.csr) fun x7 => (Tree.leaf (SV.tup [(SV.agg [(SV.arr IntKind.u32 16 x7.regs), (SV.v (Value.int IntKind.u32 x7.pc)), (SV.arr IntKind.u32 12 x7.csr), (SV.rd ETy.u8 m.mem), (SV.v (Value.int IntKind.u64 m.time)), (SV.rd ETy.u8 m.out), (SV.v (Value.bool m.halted))]), (SV.agg [(SV.v (Value.int IntKind.i64 x5.snd.cause)), (SV.v (Value.int IntKind.u32 x5.snd.tval))])])))) else (Tree.leaf (SV.tup [(SV.agg [(SV.arr IntKind.u32 16 m.core.regs), (SV.v (Value.int IntKind.u32 m.core.pc)), (SV.arr IntKind.u32 12 m.core.csr), (SV.rd ETy.u8 m.mem), (SV.v (Value.int IntKind.u64 m.time)), (SV.rd ETy.u8 m.out), (SV.v (Value.bool m.halted))]), (SV.agg [(SV.v (Value.int IntKind.i64 x5.snd.cause)), (SV.v (Value.int
 IntKind.u32 x5.snd.tval))])])))) else (Tree.fail)))) else (bif (BEq.beq i.op (13 : Int)) then (Tree.letv (okO [(AT.i IntKind.u32)]) ((x0 + (i.imm % (4294967296 : Int))) % (4294967296 : Int)) fun x3 => (Tree.letv (okO [(AT.i IntKind.i64)]) (if (Or (i.op = (13 : Int)) (i.op = (14 : Int))) then (1 : Int) else (4 : Int)) fun x4 => (bif (decide (Or (x4 = (1 : Int)) (x4 = (4 : Int)))) then (Tree.letv (okO [(AT.i IntKind.u32), AT.trap]) (K.load m x3 x4) fun x5 => (bif (BEq.beq x5.snd.cause (0 : Int)) then (Tree.letv (okO [(AT.a IntKind.u32 16)]) (K.put m.core.regs i.rd x5.fst) fun x6 => (Tree.letv (okO [AT.core]) (PCore.mk x6 ((m.core.pc + (4 : Int)) % (4294967296 : Int)) m.core.csr) fun x7 => (Tree.leaf (SV.tup [(SV.agg [(SV.arr IntKind.u32 16 x7.regs), (SV.v (Value.int IntKind.u32 x7.pc)), (SV.arr IntKind.u32 12 x7.csr), (SV.rd ETy.u8 m.mem), (SV.v (Value.int IntKind.u64 m.time)), (SV.rd ETy.u8 m.out), (SV.v (Value.bool m.halted))]), (SV.agg [(SV.v (Value.int IntKind.i64 x5.snd.cause)), (SV.v (Value.int IntKind.u32 x5.snd.tval))])])))) else (Tree.leaf (SV.tup [(SV.agg [(SV.arr IntKind.u32 16 m.core.regs), (SV.v (Value.int IntKind.u32 m.core.pc)), (SV.arr IntKind.u32 12 m.core.csr), (SV.rd ETy.u8 m.mem), (SV.v (Value.int IntKind.u64 m.time)), (SV.rd ETy.u8 m.out), (SV.v (Value.bool m.halted))]), (SV.agg [(SV.v (Value.int IntKind.i64 x5.snd.cause)), (SV.v (Value.int IntKind.u32 x5.snd.tval))])])))) else (Tree.fail)))) else (bif (BEq.beq i.op (12 : Int)) then (Tree.letv (okO [(AT.i
 IntKind.u32)]) ((x0 + (i.imm % (4294967296 : Int))) % (4294967296 : Int)) fun x3 => (Tree.letv (okO [(AT.i IntKind.i64)]) (if (Or (i.op = (13 : Int)) (i.op = (14 : Int))) then (1 : Int) else (4 : Int)) fun x4 => (bif (decide (And (Or (x4 = (1 : Int)) (x4 = (4 : Int))) ((List.length m.mem) ≤ 1099511627776))) then (Tree.letv (okO [AT.mach, AT.trap]) (K.store m x3 x4 x2) fun x5 => (bif (BEq.beq x5.snd.cause (0 : Int)) then (Tree.letv (okO [AT.core]) (PCore.mk x5.fst.core.regs ((x5.fst.core.pc + (4 : Int)) % (4294967296 : Int)) x5.fst.core.csr) fun x6 => (Tree.leaf (SV.tup [(SV.agg [(SV.arr IntKind.u32 16 x6.regs), (SV.v (Value.int IntKind.u32 x6.pc)), (SV.arr IntKind.u32 12 x6.csr), (SV.rd ETy.u8 x5.fst.mem), (SV.v (Value.int IntKind.u64 x5.fst.time)), (SV.rd ETy.u8 x5.fst.out), (SV.v (Value.bool x5.fst.halted))]), (SV.agg [(SV.v (Value.int IntKind.i64 x5.snd.cause)), (SV.v (Value.int IntKind.u32 x5.snd.tval))])]))) else (Tree.leaf (SV.tup [(SV.agg [(SV.arr IntKind.u32 16 m.core.regs), (SV.v (Value.int IntKind.u32 m.core.pc)), (SV.arr IntKind.u32 12 m.core.csr), (SV.rd ETy.u8 m.mem), (SV.v (Value.int IntKind.u64 m.time)), (SV.rd ETy.u8 m.out), (SV.v (Value.bool m.halted))]), (SV.agg [(SV.v (Value.int IntKind.i64 x5.snd.cause)), (SV.v (Value.int IntKind.u32 x5.snd.tval))])])))) else (Tree.fail)))) else (bif (BEq.beq i.op (14 : Int)) then (Tree.letv (okO [(AT.i IntKind.u32)]) ((x0 + (i.imm % (4294967296 : Int))) % (4294967296 : Int)) fun x3 => (Tree.letv (okO [(AT.i IntKind.i64)])
 (if (Or (i.op = (13 : Int)) (i.op = (14 : Int))) then (1 : Int) else (4 : Int)) fun x4 => (bif (decide (And (Or (x4 = (1 : Int)) (x4 = (4 : Int))) ((List.length m.mem) ≤ 1099511627776))) then (Tree.letv (okO [AT.mach, AT.trap]) (K.store m x3 x4 x2) fun x5 => (bif (BEq.beq x5.snd.cause (0 : Int)) then (Tree.letv (okO [AT.core]) (PCore.mk x5.fst.core.regs ((x5.fst.core.pc + (4 : Int)) % (4294967296 : Int)) x5.fst.core.csr) fun x6 => (Tree.leaf (SV.tup [(SV.agg [(SV.arr IntKind.u32 16 x6.regs), (SV.v (Value.int IntKind.u32 x6.pc)), (SV.arr IntKind.u32 12 x6.csr), (SV.rd ETy.u8 x5.fst.mem), (SV.v (Value.int IntKind.u64 x5.fst.time)), (SV.rd ETy.u8 x5.fst.out), (SV.v (Value.bool x5.fst.halted))]), (SV.agg [(SV.v (Value.int IntKind.i64 x5.snd.cause)), (SV.v (Value.int IntKind.u32 x5.snd.tval))])]))) else (Tree.leaf (SV.tup [(SV.agg [(SV.arr IntKind.u32 16 m.core.regs), (SV.v (Value.int IntKind.u32 m.core.pc)), (SV.arr IntKind.u32 12 m.core.csr), (SV.rd ETy.u8 m.mem), (SV.v (Value.int IntKind.u64 m.time)), (SV.rd ETy.u8 m.out), (SV.v (Value.bool m.halted))]), (SV.agg [(SV.v (Value.int IntKind.i64 x5.snd.cause)), (SV.v (Value.int IntKind.u32 x5.snd.tval))])])))) else (Tree.fail)))) else (bif (BEq.beq i.op (15 : Int)) then (Tree.letv (okO [AT.b]) (K.taken i.op x2 x0) fun x3 => (bif x3 then (Tree.letv (okO [(AT.i IntKind.u32)]) (((4 : Int) * (i.imm % (4294967296 : Int))) % (4294967296 : Int)) fun x4 => (Tree.letv (okO [AT.core]) (PCore.mk m.core.regs ((m.core.pc + x4) % (4294967296 :
 Int)) m.core.csr) fun x5 => (Tree.leaf (SV.tup [(SV.agg [(SV.arr IntKind.u32 16 x5.regs), (SV.v (Value.int IntKind.u32 x5.pc)), (SV.arr IntKind.u32 12 x5.csr), (SV.rd ETy.u8 m.mem), (SV.v (Value.int IntKind.u64 m.time)), (SV.rd ETy.u8 m.out), (SV.v (Value.bool m.halted))]), (SV.agg [(SV.v (Value.int IntKind.i64 (0 : Int))), (SV.v (Value.int IntKind.u32 (0 : Int)))])])))) else (Tree.letv (okO [AT.core]) (PCore.mk m.core.regs ((m.core.pc + (4 : Int)) % (4294967296 : Int)) m.core.csr) fun x4 => (Tree.leaf (SV.tup [(SV.agg [(SV.arr IntKind.u32 16 x4.regs), (SV.v (Value.int IntKind.u32 x4.pc)), (SV.arr IntKind.u32 12 x4.csr), (SV.rd ETy.u8 m.mem), (SV.v (Value.int IntKind.u64 m.time)), (SV.rd ETy.u8 m.out), (SV.v (Value.bool m.halted))]), (SV.agg [(SV.v (Value.int IntKind.i64 (0 : Int))), (SV.v (Value.int IntKind.u32 (0 : Int)))])]))))) else (bif (BEq.beq i.op (16 : Int)) then (Tree.letv (okO [AT.b]) (K.taken i.op x2 x0) fun x3 => (bif x3 then (Tree.letv (okO [(AT.i IntKind.u32)]) (((4 : Int) * (i.imm % (4294967296 : Int))) % (4294967296 : Int)) fun x4 => (Tree.letv (okO [AT.core]) (PCore.mk m.core.regs ((m.core.pc + x4) % (4294967296 : Int)) m.core.csr) fun x5 => (Tree.leaf (SV.tup [(SV.agg [(SV.arr IntKind.u32 16 x5.regs), (SV.v (Value.int IntKind.u32 x5.pc)), (SV.arr IntKind.u32 12 x5.csr), (SV.rd ETy.u8 m.mem), (SV.v (Value.int IntKind.u64 m.time)), (SV.rd ETy.u8 m.out), (SV.v (Value.bool m.halted))]), (SV.agg [(SV.v (Value.int IntKind.i64 (0 : Int))), (SV.v (Value.int
 IntKind.u32 (0 : Int)))])])))) else (Tree.letv (okO [AT.core]) (PCore.mk m.core.regs ((m.core.pc + (4 : Int)) % (4294967296 : Int)) m.core.csr) fun x4 => (Tree.leaf (SV.tup [(SV.agg [(SV.arr IntKind.u32 16 x4.regs), (SV.v (Value.int IntKind.u32 x4.pc)), (SV.arr IntKind.u32 12 x4.csr), (SV.rd ETy.u8 m.mem), (SV.v (Value.int IntKind.u64 m.time)), (SV.rd ETy.u8 m.out), (SV.v (Value.bool m.halted))]), (SV.agg [(SV.v (Value.int IntKind.i64 (0 : Int))), (SV.v (Value.int IntKind.u32 (0 : Int)))])]))))) else (bif (BEq.beq i.op (17 : Int)) then (Tree.letv (okO [AT.b]) (K.taken i.op x2 x0) fun x3 => (bif x3 then (Tree.letv (okO [(AT.i IntKind.u32)]) (((4 : Int) * (i.imm % (4294967296 : Int))) % (4294967296 : Int)) fun x4 => (Tree.letv (okO [AT.core]) (PCore.mk m.core.regs ((m.core.pc + x4) % (4294967296 : Int)) m.core.csr) fun x5 => (Tree.leaf (SV.tup [(SV.agg [(SV.arr IntKind.u32 16 x5.regs), (SV.v (Value.int IntKind.u32 x5.pc)), (SV.arr IntKind.u32 12 x5.csr), (SV.rd ETy.u8 m.mem), (SV.v (Value.int IntKind.u64 m.time)), (SV.rd ETy.u8 m.out), (SV.v (Value.bool m.halted))]), (SV.agg [(SV.v (Value.int IntKind.i64 (0 : Int))), (SV.v (Value.int IntKind.u32 (0 : Int)))])])))) else (Tree.letv (okO [AT.core]) (PCore.mk m.core.regs ((m.core.pc + (4 : Int)) % (4294967296 : Int)) m.core.csr) fun x4 => (Tree.leaf (SV.tup [(SV.agg [(SV.arr IntKind.u32 16 x4.regs), (SV.v (Value.int IntKind.u32 x4.pc)), (SV.arr IntKind.u32 12 x4.csr), (SV.rd ETy.u8 m.mem), (SV.v (Value.int IntKind.u64 m.time)),
 (SV.rd ETy.u8 m.out), (SV.v (Value.bool m.halted))]), (SV.agg [(SV.v (Value.int IntKind.i64 (0 : Int))), (SV.v (Value.int IntKind.u32 (0 : Int)))])]))))) else (bif (BEq.beq i.op (18 : Int)) then (Tree.letv (okO [(AT.i IntKind.u32)]) (((4 : Int) * (i.imm % (4294967296 : Int))) % (4294967296 : Int)) fun x3 => (bif (BEq.beq i.op (19 : Int)) then (Tree.letv (okO [(AT.i IntKind.u32)]) ((x0 + (i.imm % (4294967296 : Int))) % (4294967296 : Int)) fun x4 => (Tree.letv (okO [(AT.a IntKind.u32 16)]) (K.put m.core.regs i.rd (IntKind.wrap IntKind.u32 (m.core.pc + (4 : Int)))) fun x5 => (Tree.letv (okO [AT.core]) (PCore.mk x5 ((m.core.pc + (4 : Int)) % (4294967296 : Int)) m.core.csr) fun x6 => (Tree.leaf (SV.tup [(SV.agg [(SV.arr IntKind.u32 16 x6.regs), (SV.v (Value.int IntKind.u32 x4)), (SV.arr IntKind.u32 12 x6.csr), (SV.rd ETy.u8 m.mem), (SV.v (Value.int IntKind.u64 m.time)), (SV.rd ETy.u8 m.out), (SV.v (Value.bool m.halted))]), (SV.agg [(SV.v (Value.int IntKind.i64 (0 : Int))), (SV.v (Value.int IntKind.u32 (0 : Int)))])]))))) else (Tree.letv (okO [(AT.a IntKind.u32 16)]) (K.put m.core.regs i.rd (IntKind.wrap IntKind.u32 (m.core.pc + (4 : Int)))) fun x4 => (Tree.letv (okO [AT.core]) (PCore.mk x4 ((m.core.pc + (4 : Int)) % (4294967296 : Int)) m.core.csr) fun x5 => (Tree.leaf (SV.tup [(SV.agg [(SV.arr IntKind.u32 16 x5.regs), (SV.v (Value.int IntKind.u32 (IntKind.wrap IntKind.u32 (m.core.pc + x3)))), (SV.arr IntKind.u32 12 x5.csr), (SV.rd ETy.u8 m.mem), (SV.v (Value.int IntKind.u64
 m.time)), (SV.rd ETy.u8 m.out), (SV.v (Value.bool m.halted))]), (SV.agg [(SV.v (Value.int IntKind.i64 (0 : Int))), (SV.v (Value.int IntKind.u32 (0 : Int)))])])))))) else (bif (BEq.beq i.op (19 : Int)) then (Tree.letv (okO [(AT.i IntKind.u32)]) (((4 : Int) * (i.imm % (4294967296 : Int))) % (4294967296 : Int)) fun x3 => (bif (BEq.beq i.op (19 : Int)) then (Tree.letv (okO [(AT.i IntKind.u32)]) ((x0 + (i.imm % (4294967296 : Int))) % (4294967296 : Int)) fun x4 => (Tree.letv (okO [(AT.a IntKind.u32 16)]) (K.put m.core.regs i.rd (IntKind.wrap IntKind.u32 (m.core.pc + (4 : Int)))) fun x5 => (Tree.letv (okO [AT.core]) (PCore.mk x5 ((m.core.pc + (4 : Int)) % (4294967296 : Int)) m.core.csr) fun x6 => (Tree.leaf (SV.tup [(SV.agg [(SV.arr IntKind.u32 16 x6.regs), (SV.v (Value.int IntKind.u32 x4)), (SV.arr IntKind.u32 12 x6.csr), (SV.rd ETy.u8 m.mem), (SV.v (Value.int IntKind.u64 m.time)), (SV.rd ETy.u8 m.out), (SV.v (Value.bool m.halted))]), (SV.agg [(SV.v (Value.int IntKind.i64 (0 : Int))), (SV.v (Value.int IntKind.u32 (0 : Int)))])]))))) else (Tree.letv (okO [(AT.a IntKind.u32 16)]) (K.put m.core.regs i.rd (IntKind.wrap IntKind.u32 (m.core.pc + (4 : Int)))) fun x4 => (Tree.letv (okO [AT.core]) (PCore.mk x4 ((m.core.pc + (4 : Int)) % (4294967296 : Int)) m.core.csr) fun x5 => (Tree.leaf (SV.tup [(SV.agg [(SV.arr IntKind.u32 16 x5.regs), (SV.v (Value.int IntKind.u32 (IntKind.wrap IntKind.u32 (m.core.pc + x3)))), (SV.arr IntKind.u32 12 x5.csr), (SV.rd ETy.u8 m.mem), (SV.v (Value.int
 IntKind.u64 m.time)), (SV.rd ETy.u8 m.out), (SV.v (Value.bool m.halted))]), (SV.agg [(SV.v (Value.int IntKind.i64 (0 : Int))), (SV.v (Value.int IntKind.u32 (0 : Int)))])])))))) else (bif (BEq.beq i.op (20 : Int)) then (Tree.leaf (SV.tup [(SV.agg [(SV.arr IntKind.u32 16 m.core.regs), (SV.v (Value.int IntKind.u32 m.core.pc)), (SV.arr IntKind.u32 12 m.core.csr), (SV.rd ETy.u8 m.mem), (SV.v (Value.int IntKind.u64 m.time)), (SV.rd ETy.u8 m.out), (SV.v (Value.bool m.halted))]), (SV.agg [(SV.v (Value.int IntKind.i64 (5 : Int))), (SV.v (Value.int IntKind.u32 (0 : Int)))])])) else (Tree.letv (okO [(AT.i IntKind.i64)]) (K.form i.op) fun x3 => (bif (BEq.beq x3 (1 : Int)) then (Tree.letv (okO [(AT.i IntKind.u32)]) (K.alu i.op x0 x1) fun x4 => (Tree.letv (okO [(AT.a IntKind.u32 16)]) (K.put m.core.regs i.rd x4) fun x5 => (Tree.letv (okO [AT.core]) (PCore.mk x5 ((m.core.pc + (4 : Int)) % (4294967296 : Int)) m.core.csr) fun x6 => (Tree.leaf (SV.tup [(SV.agg [(SV.arr IntKind.u32 16 x6.regs), (SV.v (Value.int IntKind.u32 x6.pc)), (SV.arr IntKind.u32 12 x6.csr), (SV.rd ETy.u8 m.mem), (SV.v (Value.int IntKind.u64 m.time)), (SV.rd ETy.u8 m.out), (SV.v (Value.bool m.halted))]), (SV.agg [(SV.v (Value.int IntKind.i64 (0 : Int))), (SV.v (Value.int IntKind.u32 (0 : Int)))])]))))) else (Tree.leaf (SV.tup [(SV.agg [(SV.arr IntKind.u32 16 m.core.regs), (SV.v (Value.int IntKind.u32 m.core.pc)), (SV.arr IntKind.u32 12 m.core.csr), (SV.rd ETy.u8 m.mem), (SV.v (Value.int IntKind.u64 m.time)), (SV.rd ETy.u8
 m.out), (SV.v (Value.bool m.halted))]), (SV.agg [(SV.v (Value.int IntKind.i64 (0 : Int))), (SV.v (Value.int IntKind.u32 (0 : Int)))])])))))))))))))))))) := by kernel_rfl
section
attribute [local irreducible] evF evFL evFLs evFP
theorem a_exec_Execute (m : PMach) (i : PInstr) (hpre : 1 ≤ i.op ∧ i.op ≤ 20 ∧ m.mem.length ≤ 1099511627776) (ok_m : okMach m) (ok_i : okInstr i) : (evF E_exec_Execute 60 44 (encArgs [.mach, .instr] (m, i, ()))).ends fun out_ => decO [.mach, .trap] out_ = some (K.exec m i) := by
  rw [t_exec_Execute, Tree.ends_holds]
  obtain ⟨im0, im1⟩ := okI_i32 ok_i.imm
  have hpre1 := hpre.1
  have hpre2 := hpre.2.1
  simp only [Tree.holds_loop, Tree.holds_fork, Tree.holds_next, if_true, Tree.holds_cond, Tree.holds_letv, Tree.holds_leaf, Tree.holds_fail, decO, decA, decTup, decMach, decCore, decTrap, decInstr, decPart, decGuest, decConf, decEvent, decVcpu, decStep, bytesS, boolS, eventsS, intsS, guestsS, vcpusS, rowS, castL, Option.bind_some, Option.map_some, Option.some.injEq, Nat.beq_refl, beq_self_eq_true, Bool.and_self, cond_true, cond_false, eq_self, beq_iff_eq, beq_eq_false_iff_ne, bne_iff_ne, bne_eq_false_iff_eq, ne_eq, decide_eq_true_eq, decide_eq_false_iff_not, ble_true, ble_false, inRange_iff, inRange_false, wrap32]
  have e0 : (K.get m.core.regs i.ra + i.imm % 4294967296) % 4294967296 = K.ea m i := rfl
  have e1 : 4 * (i.imm % 4294967296) % 4294967296 = K.far i := by unfold K.far; omega
  have x1 : 1 ≤ i.op → i.op ≤ 8 → K.exec m i = _ := fun a b => by unfold K.exec; rw [if_pos ⟨a, b⟩]
  have x9 : i.op = 9 → K.exec m i = _ := fun a => by unfold K.exec; rw [if_neg (by omega), if_pos a]
  have x10 : i.op = 10 → K.exec m i = _ := fun a => by unfold K.exec; rw [if_neg (by omega), if_neg (by omega), if_pos a]
  have x11 : i.op = 11 ∨ i.op = 13 → K.exec m i = _ := fun a => by unfold K.exec; rw [if_neg (by omega), if_neg (by omega), if_neg (by omega), if_pos a]
  have x12 : i.op = 12 ∨ i.op = 14 → K.exec m i = _ := fun a => by unfold K.exec; rw [if_neg (by omega), if_neg (by omega), if_neg (by omega), if_neg (by omega), if_pos a]
  have x15 : 15 ≤ i.op → i.op ≤ 17 → K.exec m i = _ := fun a b => by unfold K.exec; rw [if_neg (by omega), if_neg (by omega), if_neg (by omega), if_neg (by omega), if_neg (by omega), if_pos ⟨a, b⟩]
  have x18 : i.op = 18 → K.exec m i = _ := fun a => by unfold K.exec; rw [if_neg (by omega), if_neg (by omega), if_neg (by omega), if_neg (by omega), if_neg (by omega), if_neg (by omega), if_pos a]
  have x19 : i.op = 19 → K.exec m i = _ := fun a => by unfold K.exec; rw [if_neg (by omega), if_neg (by omega), if_neg (by omega), if_neg (by omega), if_neg (by omega), if_neg (by omega), if_neg (by omega), if_pos a]
  have x20 : i.op = 20 → K.exec m i = (m, ⟨5, 0⟩) := fun a => by unfold K.exec; rw [if_neg (by omega), if_neg (by omega), if_neg (by omega), if_neg (by omega), if_neg (by omega), if_neg (by omega), if_neg (by omega), if_neg (by omega)]
  have hform : K.form i.op = 1 → i.op ≤ 8 := fun h => by unfold K.form at h; (repeat' split at h) <;> omega
  have hform2 : ¬ K.form i.op = 1 → 8 < i.op := fun h => by
    unfold K.form at h
    by_cases q : i.op ≤ 8
    · rw [if_pos ⟨hpre1, q⟩] at h; exact absurd rfl h
    · omega
  simp only [e0, e1]
  clear ok_m ok_i im0 im1
  have lz := fun a n => load_zero (m := m) (a := a) (n := n)
  have sz := fun a n v => store_zero (m := m) (a := a) (n := n) (v := v)
  have ss := fun a n v => store_same (m := m) (a := a) (n := n) (v := v)
  repeat' (first | refine drop_ok ?_ | intro _ | with_reducible apply And.intro)
  all_goals try omega
  all_goals try (rw [x9 (by assumption)]; rfl)
  all_goals try (rw [x10 (by assumption)]; rfl)
  all_goals try (rw [x18 (by assumption)]; rfl)
  all_goals try (rw [x19 (by assumption)]; rfl)
  all_goals try (rw [x20 (by assumption)])
  all_goals try (rw [x1 hpre1 (hform (by assumption))]; rfl)
  all_goals try (
    have q : i.op = 11 := by assumption
    have n1 : (if i.op = 13 ∨ i.op = 14 then (1 : Int) else 4) = 4 := if_neg (by omega)
    have n2 : (if i.op = 13 then (1 : Int) else 4) = 4 := if_neg (by omega)
    rw [x11 (.inl q)]
    simp only [n1, n2] at *
    first
      | (have c : (K.load m (K.ea m i) 4).2.cause = 0 := by assumption
         rw [if_pos c]; simp only [c, lz _ _ c]; rfl)
      | (rw [if_neg (show ¬ (K.load m (K.ea m i) 4).2.cause = 0 by assumption)]; first | done | rfl))
  all_goals try (
    have q : i.op = 13 := by assumption
    have n1 : (if i.op = 13 ∨ i.op = 14 then (1 : Int) else 4) = 1 := if_pos (by omega)
    have n2 : (if i.op = 13 then (1 : Int) else 4) = 1 := if_pos (by omega)
    rw [x11 (.inr q)]
    simp only [n1, n2] at *
    first
      | (have c : (K.load m (K.ea m i) 1).2.cause = 0 := by assumption
         rw [if_pos c]; simp only [c, lz _ _ c]; rfl)
      | (rw [if_neg (show ¬ (K.load m (K.ea m i) 1).2.cause = 0 by assumption)]; first | done | rfl))
  all_goals try (
    have q : i.op = 12 := by assumption
    have n1 : (if i.op = 13 ∨ i.op = 14 then (1 : Int) else 4) = 4 := if_neg (by omega)
    have n2 : (if i.op = 14 then (1 : Int) else 4) = 4 := if_neg (by omega)
    rw [x12 (.inl q)]
    simp only [n1, n2] at *
    first
      | (have c : (K.store m (K.ea m i) 4 (K.get m.core.regs i.rd)).2.cause = 0 := by assumption
         obtain ⟨s1, s2, s3, s4⟩ := ss (K.ea m i) 4 (K.get m.core.regs i.rd)
         rw [if_pos c]; simp only [c, sz _ _ _ c, s1]; simp only [K.wpc, s1])
      | (rw [if_neg (show ¬ (K.store m (K.ea m i) 4 (K.get m.core.regs i.rd)).2.cause = 0 by assumption)]; first | done | rfl))
  all_goals try (
    have q : i.op = 14 := by assumption
    have n1 : (if i.op = 13 ∨ i.op = 14 then (1 : Int) else 4) = 1 := if_pos (by omega)
    have n2 : (if i.op = 14 then (1 : Int) else 4) = 1 := if_pos (by omega)
    rw [x12 (.inr q)]
    simp only [n1, n2] at *
    first
      | (have c : (K.store m (K.ea m i) 1 (K.get m.core.regs i.rd)).2.cause = 0 := by assumption
         obtain ⟨s1, s2, s3, s4⟩ := ss (K.ea m i) 1 (K.get m.core.regs i.rd)
         rw [if_pos c]; simp only [c, sz _ _ _ c, s1]; simp only [K.wpc, s1])
      | (rw [if_neg (show ¬ (K.store m (K.ea m i) 1 (K.get m.core.regs i.rd)).2.cause = 0 by assumption)]; first | done | rfl))
  all_goals try (rw [x15 (by omega) (by omega), if_pos (by assumption)]; rfl)
  all_goals try (rw [x15 (by omega) (by omega), if_neg (by rw [show K.taken i.op (K.get m.core.regs i.rd) (K.get m.core.regs i.ra) = false by assumption]; decide)]; rfl)
  all_goals try (have := hform2 (by assumption); omega)
  all_goals try (exfalso; rename_i q; apply q; split <;> simp; done)
  all_goals try (exfalso; rename_i q; apply q; refine ⟨?_, hpre.2.2⟩; split <;> simp; done)
  
theorem c_exec_Execute : SpecOk EB_1_2 44 S_exec_Execute := spec_sig ok_exec_Execute (n := 60) fun ⟨m, i, ⟨⟩⟩ h hok => a_exec_Execute m i (of_decide_eq_true h) (ok_mach (okSL_head hok)) (ok_instr (okSL_head (okSL_tail hok)))
end

/-! step_StepNoTimer -/

def S_step_StepNoTimer : Spec := sig [.mach] [.mach, .trap] (fun (m, _) => K.plain m) (pre := fun (m, _) => decide (m.mem.length ≤ 1099511627776 ∧ m.out.length ≤ 1099511627776))
noncomputable def E_step_StepNoTimer : Env := EB_0_1_2.adds [(25, S_step_Current), (41, S_step_end), (42, S_isa_IsPrivileged), (43, S_priv_Execute), (44, S_exec_Execute)]

theorem ok_step_StepNoTimer : EnvOk E_step_StepNoTimer := okEB_0_1_2.adds (l := _) ⟨c_step_Current, (up_to_0_1_2 c_step_end), (up_to_0_1_2 c_isa_IsPrivileged), (up_to_0_1_2 c_priv_Execute), (up_1_2_to_0_1_2 c_exec_Execute), trivial⟩
theorem t_step_StepNoTimer (m : PMach) : evF E_step_StepNoTimer 60 24 (encArgs [.mach] (m, ())) = bif m.halted then (Tree.leaf (SV.tup [(SV.agg [(SV.arr IntKind.u32 16 m.core.regs), (SV.v (Value.int IntKind.u32 m.core.pc)), (SV.arr IntKind.u32 12 m.core.csr), (SV.rd ETy.u8 m.mem), (SV.v (Value.int IntKind.u64 m.time)), (SV.rd ETy.u8 m.out), (SV.v (Value.bool m.halted))]), (SV.agg [(SV.v (Value.int IntKind.i64 (0 : Int))), (SV.v (Value.int IntKind.u32 (0 : Int)))])])) else (Tree.letv (okO [AT.instr, AT.trap]) (K.cur m) fun x0 => (bif (bne x0.snd.cause (0 : Int)) then (Tree.letv (okO [AT.mach, AT.trap]) (K.endS m x0.snd) fun x1 => (Tree.leaf (SV.tup [(SV.agg [(SV.arr IntKind.u32 16 x1.fst.core.regs), (SV.v (Value.int IntKind.u32 x1.fst.core.pc)), (SV.arr IntKind.u32 12 x1.fst.core.csr), (SV.rd ETy.u8 x1.fst.mem), (SV.v (Value.int IntKind.u64 x1.fst.time)), (SV.rd ETy.u8 x1.fst.out), (SV.v (Value.bool x1.fst.halted))]), (SV.agg [(SV.v (Value.int IntKind.i64 x1.snd.cause)), (SV.v (Value.int IntKind.u32 x1.snd.tval))])]))) else (Tree.letv (okO [AT.b]) (K.privd x0.fst.op) fun x1 => (bif x1 then (bif (decide ((List.length m.out) ≤ 1099511627776)) then (Tree.letv (okO [AT.mach]) (K.priv m x0.fst) fun x2 => (Tree.letv (okO [AT.mach, AT.trap]) (K.endS x2 x0.snd) fun x3 => (Tree.leaf (SV.tup [(SV.agg [(SV.arr IntKind.u32 16 x3.fst.core.regs), (SV.v (Value.int IntKind.u32 x3.fst.core.pc)), (SV.arr IntKind.u32 12 x3.fst.core.csr), (SV.rd ETy.u8 x3.fst.mem), (SV.v (Value.int IntKind.u64
 x3.fst.time)), (SV.rd ETy.u8 x3.fst.out), (SV.v (Value.bool x3.fst.halted))]), (SV.agg [(SV.v (Value.int IntKind.i64 x3.snd.cause)), (SV.v (Value.int IntKind.u32 x3.snd.tval))])])))) else (Tree.fail)) else (bif (decide (And ((1 : Int) ≤ x0.fst.op) (And (x0.fst.op ≤ (20 : Int)) ((List.length m.mem) ≤ 1099511627776)))) then (Tree.letv (okO [AT.mach, AT.trap]) (K.exec m x0.fst) fun x2 => (Tree.letv (okO [AT.mach, AT.trap]) (K.endS x2.fst x2.snd) fun x3 => (Tree.leaf (SV.tup [(SV.agg [(SV.arr IntKind.u32 16 x3.fst.core.regs), (SV.v (Value.int IntKind.u32 x3.fst.core.pc)), (SV.arr IntKind.u32 12 x3.fst.core.csr), (SV.rd ETy.u8 x3.fst.mem), (SV.v (Value.int IntKind.u64 x3.fst.time)), (SV.rd ETy.u8 x3.fst.out), (SV.v (Value.bool x3.fst.halted))]), (SV.agg [(SV.v (Value.int IntKind.i64 x3.snd.cause)), (SV.v (Value.int IntKind.u32 x3.snd.tval))])])))) else (Tree.fail)))))) := by kernel_rfl
section
attribute [local irreducible] evF evFL evFLs evFP
theorem a_step_StepNoTimer (m : PMach) (hpre : m.mem.length ≤ 1099511627776 ∧ m.out.length ≤ 1099511627776) (ok_m : okMach m) : (evF E_step_StepNoTimer 60 24 (encArgs [.mach] (m, ()))).ends fun out_ => decO [.mach, .trap] out_ = some (K.plain m) := by
  rw [t_step_StepNoTimer, Tree.ends_holds]
  have hmay := fun h => cur_may (m := m) h
  have hz := fun h => cur_zero (m := m) h
  simp only [Tree.holds_loop, Tree.holds_fork, Tree.holds_next, if_true, Tree.holds_cond, Tree.holds_letv, Tree.holds_leaf, Tree.holds_fail, decO, decA, decTup, decMach, decCore, decTrap, decInstr, decPart, decGuest, decConf, decEvent, decVcpu, decStep, bytesS, boolS, eventsS, intsS, guestsS, vcpusS, rowS, castL, Option.bind_some, Option.map_some, Option.some.injEq, Nat.beq_refl, beq_self_eq_true, Bool.and_self, cond_true, cond_false, eq_self, beq_iff_eq, beq_eq_false_iff_ne, bne_iff_ne, bne_eq_false_iff_eq, ne_eq, decide_eq_true_eq, decide_eq_false_iff_not, ble_true, ble_false, inRange_iff, inRange_false]
  unfold K.plain
  repeat' (first | refine drop_ok ?_ | intro _ | with_reducible apply And.intro)
  · rename_i h; rw [if_pos h]
  · rename_i h c; rw [if_neg (by rw [h]; decide), if_pos c]
  · rename_i h c p _; rw [if_neg (by rw [h]; decide), if_neg (by simp [c]), if_pos p, hz c]
  · omega
  · rename_i h c p _; rw [if_neg (by rw [h]; decide), if_neg (by simp [c]), if_neg (by rw [p]; decide)]
  · rename_i h c p q
    have hm := (hmay c).op
    apply q
    refine ⟨hm.1, ?_, hpre.1⟩
    have : ¬ (21 ≤ (K.cur m).1.op ∧ (K.cur m).1.op ≤ 25) := fun z => by rw [privd_range.2 z] at p; cases p
    omega
  
theorem c_step_StepNoTimer : SpecOk EB_0_1_2 24 S_step_StepNoTimer := spec_sig ok_step_StepNoTimer (n := 60) fun ⟨m, ⟨⟩⟩ h hok => a_step_StepNoTimer m (of_decide_eq_true h) (ok_mach (okSL_head hok))
end

/-! priv_ReadsTime -/

def S_priv_ReadsTime : Spec := sig [.instr] [.b] (fun (i, _) => K.reads i)
noncomputable def E_priv_ReadsTime : Env := EB.adds []

theorem ok_priv_ReadsTime : EnvOk E_priv_ReadsTime := okEB.adds (l := _) trivial
theorem t_priv_ReadsTime (i : PInstr) : evF E_priv_ReadsTime 60 65 (encArgs [.instr] (i, ())) = bif (BEq.beq i.op (21 : Int)) then (bif (BEq.beq i.imm (7 : Int)) then (Tree.leaf (SV.b true)) else (bif (BEq.beq i.imm (8 : Int)) then (Tree.leaf (SV.b true)) else (Tree.leaf (SV.b false)))) else (Tree.leaf (SV.b false)) := by kernel_rfl
section
attribute [local irreducible] evF evFL evFLs evFP
theorem a_priv_ReadsTime (i : PInstr) (ok_i : okInstr i) : (evF E_priv_ReadsTime 60 65 (encArgs [.instr] (i, ()))).ends fun out_ => decO [.b] out_ = some (K.reads i) := by
  rw [t_priv_ReadsTime, Tree.ends_holds]
  simp only [Tree.holds_loop, Tree.holds_fork, Tree.holds_next, if_true, Tree.holds_cond, Tree.holds_letv, Tree.holds_leaf, Tree.holds_fail, decO, decA, decTup, decMach, decCore, decTrap, decInstr, decPart, decGuest, decConf, decEvent, decVcpu, decStep, bytesS, boolS, eventsS, intsS, guestsS, vcpusS, rowS, castL, Option.bind_some, Option.map_some, Option.some.injEq, Nat.beq_refl, beq_self_eq_true, Bool.and_self, cond_true, cond_false, eq_self, beq_iff_eq, beq_eq_false_iff_ne, bne_iff_ne, bne_eq_false_iff_eq, ne_eq, decide_eq_true_eq, decide_eq_false_iff_not, ble_true, ble_false, inRange_iff, inRange_false]
  repeat' (first | refine drop_ok ?_ | intro _ | with_reducible apply And.intro)
  all_goals simp_all [K.reads]
  
theorem c_priv_ReadsTime : SpecOk EB 65 S_priv_ReadsTime := spec_sig ok_priv_ReadsTime (n := 60) fun ⟨i, ⟨⟩⟩ h hok => a_priv_ReadsTime i (ok_instr (okSL_head hok))
end

/-! replay_plain -/

def S_replay_plain : PSpec := psig [.mach] [.mach] (.v (.iface 79 (.agg #[]))) (fun (m, _) => (K.plOk m, (K.plain m).1)) (pre := fun (m, _) => decide (m.mem.length ≤ 1099511627776 ∧ m.out.length ≤ 1099511627776))
noncomputable def PS_replay_plain : FuncId → Option PSpec := lookP []
noncomputable def E_replay_plain : Env := EB_0_1_2.adds [(25, S_step_Current), (24, S_step_StepNoTimer), (65, S_priv_ReadsTime)]

theorem ok_replay_plain : EnvOk E_replay_plain := okEB_0_1_2.adds (l := _) ⟨c_step_Current, c_step_StepNoTimer, (up_to_0_1_2 c_priv_ReadsTime), trivial⟩
theorem po_replay_plain : PSOk E_replay_plain PS_replay_plain := lookP_ok (B := E_replay_plain) (l := []) trivial
theorem t_replay_plain (m : PMach) : evFP E_replay_plain PS_replay_plain ⟨fun _ => none, fun _ => false, []⟩ 60 37 (encArgs [.mach] (m, ())) = Tree.letv (okO [AT.instr, AT.trap]) (K.cur m) fun x0 => (bif (bne x0.snd.cause (0 : Int)) then (bif (decide (And ((List.length m.mem) ≤ 1099511627776) ((List.length m.out) ≤ 1099511627776))) then (Tree.letv (okO [AT.mach, AT.trap]) (K.plain m) fun x1 => (Tree.leaf (SV.agg [(SV.arr IntKind.u32 16 x1.fst.core.regs), (SV.v (Value.int IntKind.u32 x1.fst.core.pc)), (SV.arr IntKind.u32 12 x1.fst.core.csr), (SV.rd ETy.u8 x1.fst.mem), (SV.v (Value.int IntKind.u64 x1.fst.time)), (SV.rd ETy.u8 x1.fst.out), (SV.v (Value.bool x1.fst.halted))]))) else (Tree.fail)) else (Tree.letv (okO [AT.b]) (K.reads x0.fst) fun x1 => (bif x1 then ((Tree.next 4242 [(SV.v (Value.iface 79 (Value.agg #[])))] [])) else (bif (decide (And ((List.length m.mem) ≤ 1099511627776) ((List.length m.out) ≤ 1099511627776))) then (Tree.letv (okO [AT.mach, AT.trap]) (K.plain m) fun x2 => (Tree.leaf (SV.agg [(SV.arr IntKind.u32 16 x2.fst.core.regs), (SV.v (Value.int IntKind.u32 x2.fst.core.pc)), (SV.arr IntKind.u32 12 x2.fst.core.csr), (SV.rd ETy.u8 x2.fst.mem), (SV.v (Value.int IntKind.u64 x2.fst.time)), (SV.rd ETy.u8 x2.fst.out), (SV.v (Value.bool x2.fst.halted))]))) else (Tree.fail))))) := by kernel_rfl
section
attribute [local irreducible] evF evFL evFLs evFP
theorem a_replay_plain (m : PMach) (hpre : m.mem.length ≤ 1099511627776 ∧ m.out.length ≤ 1099511627776) (ok_m : okMach m) : (evFP E_replay_plain PS_replay_plain ⟨fun _ => none, fun _ => false, []⟩ 60 37 (encArgs [.mach] (m, ()))).holds ⟨fun out_ => ((K.plOk m, (K.plain m).1)).1 = true ∧ decO [.mach] out_ = some ((K.plOk m, (K.plain m).1)).2, fun l_ vs_ bs_ => l_ = 4242 ∧ ∃ v_, vs_ = [v_] ∧ (((K.plOk m, (K.plain m).1)).1 = false ∧ v_ = .v (.iface 79 (.agg #[])))⟩ := by
  rw [t_replay_plain]
  obtain ⟨hm, ho⟩ := hpre
  simp only [Tree.holds_loop, Tree.holds_fork, Tree.holds_next, if_true, Tree.holds_cond, Tree.holds_letv, Tree.holds_leaf, Tree.holds_fail, decO, decA, decTup, decMach, decCore, decTrap, decInstr, decPart, decGuest, decConf, decEvent, decVcpu, decStep, bytesS, boolS, eventsS, intsS, guestsS, vcpusS, rowS, castL, Option.bind_some, Option.map_some, Option.some.injEq, Nat.beq_refl, beq_self_eq_true, Bool.and_self, cond_true, cond_false, eq_self, beq_iff_eq, beq_eq_false_iff_ne, bne_iff_ne, bne_eq_false_iff_eq, ne_eq, decide_eq_true_eq, decide_eq_false_iff_not, ble_true, ble_false, inRange_iff, inRange_false]
  repeat' (first | refine drop_ok ?_ | intro _ | with_reducible apply And.intro)
  all_goals first
    | trivial
    | (exfalso; rename_i q; exact q ⟨hm, ho⟩)
    | (simp [K.plOk, *]; done)
  
theorem c_replay_plain : PSpecOk EB_0_1_2 37 S_replay_plain := spec_sigP ok_replay_plain po_replay_plain (n := 60) (fun (m, _) => ⟨fun _ => none, fun _ => false, []⟩) fun ⟨m, ⟨⟩⟩ h hok => a_replay_plain m (of_decide_eq_true h) (ok_mach (okSL_head hok))
end

/-! trap_InterruptsEnabled -/

def S_trap_InterruptsEnabled : Spec := sig [.core] [.b] (fun (c, _) => K.ie c)
noncomputable def E_trap_InterruptsEnabled : Env := EB.adds []

theorem ok_trap_InterruptsEnabled : EnvOk E_trap_InterruptsEnabled := okEB.adds (l := _) trivial
theorem t_trap_InterruptsEnabled (c : PCore) : evF E_trap_InterruptsEnabled 60 100 (encArgs [.core] (c, ())) = bif (bne (andI IntKind.u32 (List.getD c.csr 0 (0 : Int)) (2 : Int)) (0 : Int)) then (Tree.leaf (SV.b true)) else (Tree.leaf (SV.b false)) := by kernel_rfl
section
attribute [local irreducible] evF evFL evFLs evFP
theorem a_trap_InterruptsEnabled (c : PCore) (ok_c : okCore c) : (evF E_trap_InterruptsEnabled 60 100 (encArgs [.core] (c, ()))).ends fun out_ => decO [.b] out_ = some (K.ie c) := by
  rw [t_trap_InterruptsEnabled, Tree.ends_holds]
  obtain ⟨s0, s1⟩ := ok_c.csr.u32 (i := 0) (by omega)
  simp only [Tree.holds_loop, Tree.holds_fork, Tree.holds_next, if_true, Tree.holds_cond, Tree.holds_letv, Tree.holds_leaf, Tree.holds_fail, decO, decA, decTup, decMach, decCore, decTrap, decInstr, decPart, decGuest, decConf, decEvent, decVcpu, decStep, bytesS, boolS, eventsS, intsS, guestsS, vcpusS, rowS, castL, Option.bind_some, Option.map_some, Option.some.injEq, Nat.beq_refl, beq_self_eq_true, Bool.and_self, cond_true, cond_false, eq_self, beq_iff_eq, beq_eq_false_iff_ne, bne_iff_ne, bne_eq_false_iff_eq, ne_eq, decide_eq_true_eq, decide_eq_false_iff_not, ble_true, ble_false, inRange_iff, inRange_false, K.ie, and_2 s0 s1]
  repeat' (first | refine drop_ok ?_ | intro _ | with_reducible apply And.intro)
  all_goals (simp_all; try omega)
  
theorem c_trap_InterruptsEnabled : SpecOk EB 100 S_trap_InterruptsEnabled := spec_sig ok_trap_InterruptsEnabled (n := 60) fun ⟨c, ⟨⟩⟩ h hok => a_trap_InterruptsEnabled c (ok_core (okSL_head hok))
end

/-! csr_TimerCompare -/

def S_csr_TimerCompare : Spec := sig [.a .u32 12] [.i .u64] (fun (c, _) => K.cmp c)
noncomputable def E_csr_TimerCompare : Env := EB.adds []

theorem ok_csr_TimerCompare : EnvOk E_csr_TimerCompare := okEB.adds (l := _) trivial
theorem t_csr_TimerCompare (c : List Int) : evF E_csr_TimerCompare 60 101 (encArgs [.a .u32 12] (c, ())) = Tree.leaf (SV.v (Value.int IntKind.u64 (orI IntKind.u64 (IntKind.wrap IntKind.u64 ((IntKind.wrap IntKind.u64 (List.getD c 10 (0 : Int))) * (4294967296 : Int))) (IntKind.wrap IntKind.u64 (List.getD c 9 (0 : Int)))))) := by kernel_rfl
section
attribute [local irreducible] evF evFL evFLs evFP
theorem a_csr_TimerCompare (c : List Int) (ok_c : okL .u32 12 c) : (evF E_csr_TimerCompare 60 101 (encArgs [.a .u32 12] (c, ()))).ends fun out_ => decO [.i .u64] out_ = some (K.cmp c) := by
  rw [t_csr_TimerCompare, Tree.ends_holds]
  obtain ⟨a0, a1⟩ := ok_c.u32 (i := 9) (by omega)
  obtain ⟨b0, b1⟩ := ok_c.u32 (i := 10) (by omega)
  simp only [Tree.holds_loop, Tree.holds_fork, Tree.holds_next, if_true, Tree.holds_cond, Tree.holds_letv, Tree.holds_leaf, Tree.holds_fail, decO, decA, decTup, decMach, decCore, decTrap, decInstr, decPart, decGuest, decConf, decEvent, decVcpu, decStep, bytesS, boolS, eventsS, intsS, guestsS, vcpusS, rowS, castL, Option.bind_some, Option.map_some, Option.some.injEq, Nat.beq_refl, beq_self_eq_true, Bool.and_self, cond_true, cond_false, eq_self, K.cmp]
  generalize c.getD 9 0 = a at *
  generalize c.getD 10 0 = b at *
  rw [show IntKind.u64.wrap (IntKind.u64.wrap b * 4294967296) = b * 4294967296 by rw [wrap64, wrap64]; omega, show IntKind.u64.wrap a = a by rw [wrap64]; omega]
  obtain ⟨x, rfl⟩ := Int.eq_ofNat_of_zero_le a0
  obtain ⟨y, rfl⟩ := Int.eq_ofNat_of_zero_le b0
  have e : (y : Int) * 4294967296 = ((2 ^ 32 * y : Nat) : Int) := by rw [Int.natCast_mul, Int.mul_comm]; rfl
  rw [e, or64_nat (by omega) (by omega)]
  have := Nat.two_pow_add_eq_or_of_lt (show x < 2 ^ 32 by omega) y
  rw [← this]; rfl
  
theorem c_csr_TimerCompare : SpecOk EB 101 S_csr_TimerCompare := spec_sig ok_csr_TimerCompare (n := 60) fun ⟨c, ⟨⟩⟩ h hok => a_csr_TimerCompare c (ok_arr (okSL_head hok))
end

/-! fetch_TimerPending -/

def S_fetch_TimerPending : Spec := sig [.mach] [.b] (fun (m, _) => K.due m)
noncomputable def E_fetch_TimerPending : Env := EB.adds [(100, S_trap_InterruptsEnabled), (101, S_csr_TimerCompare)]

theorem ok_fetch_TimerPending : EnvOk E_fetch_TimerPending := okEB.adds (l := _) ⟨c_trap_InterruptsEnabled, c_csr_TimerCompare, trivial⟩
theorem t_fetch_TimerPending (m : PMach) : evF E_fetch_TimerPending 60 63 (encArgs [.mach] (m, ())) = Tree.letv (okO [AT.b]) (K.ie m.core) fun x0 => (bif x0 then (Tree.letv (okO [(AT.i IntKind.u64)]) (K.cmp m.core.csr) fun x1 => (bif (decide (m.time ≥ x1)) then (Tree.leaf (SV.b true)) else (Tree.leaf (SV.b false)))) else (Tree.leaf (SV.b false))) := by kernel_rfl
section
attribute [local irreducible] evF evFL evFLs evFP
theorem a_fetch_TimerPending (m : PMach) (ok_m : okMach m) : (evF E_fetch_TimerPending 60 63 (encArgs [.mach] (m, ()))).ends fun out_ => decO [.b] out_ = some (K.due m) := by
  rw [t_fetch_TimerPending, Tree.ends_holds]
  simp only [Tree.holds_loop, Tree.holds_fork, Tree.holds_next, if_true, Tree.holds_cond, Tree.holds_letv, Tree.holds_leaf, Tree.holds_fail, decO, decA, decTup, decMach, decCore, decTrap, decInstr, decPart, decGuest, decConf, decEvent, decVcpu, decStep, bytesS, boolS, eventsS, intsS, guestsS, vcpusS, rowS, castL, Option.bind_some, Option.map_some, Option.some.injEq, Nat.beq_refl, beq_self_eq_true, Bool.and_self, cond_true, cond_false, eq_self, beq_iff_eq, beq_eq_false_iff_ne, bne_iff_ne, bne_eq_false_iff_eq, ne_eq, decide_eq_true_eq, decide_eq_false_iff_not, ble_true, ble_false, inRange_iff, inRange_false, K.due]
  repeat' (first | refine drop_ok ?_ | intro _ | with_reducible apply And.intro)
  all_goals simp_all
  
theorem c_fetch_TimerPending : SpecOk EB 63 S_fetch_TimerPending := spec_sig ok_fetch_TimerPending (n := 60) fun ⟨m, ⟨⟩⟩ h hok => a_fetch_TimerPending m (ok_mach (okSL_head hok))
end

/-! step_Step -/

def S_step_Step : Spec := sig [.mach] [.mach, .trap] (fun (m, _) => K.step m) (pre := fun (m, _) => decide (m.mem.length ≤ 1099511627776 ∧ m.out.length ≤ 1099511627776))
noncomputable def E_step_Step : Env := EB_0_1_2.adds [(63, S_fetch_TimerPending), (41, S_step_end), (24, S_step_StepNoTimer)]

theorem ok_step_Step : EnvOk E_step_Step := okEB_0_1_2.adds (l := _) ⟨(up_to_0_1_2 c_fetch_TimerPending), (up_to_0_1_2 c_step_end), c_step_StepNoTimer, trivial⟩
theorem t_step_Step (m : PMach) : evF E_step_Step 60 51 (encArgs [.mach] (m, ())) = bif m.halted then (bif (decide (And ((List.length m.mem) ≤ 1099511627776) ((List.length m.out) ≤ 1099511627776))) then (Tree.letv (okO [AT.mach, AT.trap]) (K.plain m) fun x0 => (Tree.leaf (SV.tup [(SV.agg [(SV.arr IntKind.u32 16 x0.fst.core.regs), (SV.v (Value.int IntKind.u32 x0.fst.core.pc)), (SV.arr IntKind.u32 12 x0.fst.core.csr), (SV.rd ETy.u8 x0.fst.mem), (SV.v (Value.int IntKind.u64 x0.fst.time)), (SV.rd ETy.u8 x0.fst.out), (SV.v (Value.bool x0.fst.halted))]), (SV.agg [(SV.v (Value.int IntKind.i64 x0.snd.cause)), (SV.v (Value.int IntKind.u32 x0.snd.tval))])]))) else (Tree.fail)) else (Tree.letv (okO [AT.b]) (K.due m) fun x0 => (bif x0 then (Tree.letv (okO [AT.mach, AT.trap]) (K.endS m (PTrap.mk (6 : Int) (0 : Int))) fun x1 => (Tree.leaf (SV.tup [(SV.agg [(SV.arr IntKind.u32 16 x1.fst.core.regs), (SV.v (Value.int IntKind.u32 x1.fst.core.pc)), (SV.arr IntKind.u32 12 x1.fst.core.csr), (SV.rd ETy.u8 x1.fst.mem), (SV.v (Value.int IntKind.u64 x1.fst.time)), (SV.rd ETy.u8 x1.fst.out), (SV.v (Value.bool x1.fst.halted))]), (SV.agg [(SV.v (Value.int IntKind.i64 x1.snd.cause)), (SV.v (Value.int IntKind.u32 x1.snd.tval))])]))) else (bif (decide (And ((List.length m.mem) ≤ 1099511627776) ((List.length m.out) ≤ 1099511627776))) then (Tree.letv (okO [AT.mach, AT.trap]) (K.plain m) fun x1 => (Tree.leaf (SV.tup [(SV.agg [(SV.arr IntKind.u32 16 x1.fst.core.regs), (SV.v (Value.int IntKind.u32
 x1.fst.core.pc)), (SV.arr IntKind.u32 12 x1.fst.core.csr), (SV.rd ETy.u8 x1.fst.mem), (SV.v (Value.int IntKind.u64 x1.fst.time)), (SV.rd ETy.u8 x1.fst.out), (SV.v (Value.bool x1.fst.halted))]), (SV.agg [(SV.v (Value.int IntKind.i64 x1.snd.cause)), (SV.v (Value.int IntKind.u32 x1.snd.tval))])]))) else (Tree.fail)))) := by kernel_rfl
section
attribute [local irreducible] evF evFL evFLs evFP
theorem a_step_Step (m : PMach) (hpre : m.mem.length ≤ 1099511627776 ∧ m.out.length ≤ 1099511627776) (ok_m : okMach m) : (evF E_step_Step 60 51 (encArgs [.mach] (m, ()))).ends fun out_ => decO [.mach, .trap] out_ = some (K.step m) := by
  rw [t_step_Step, Tree.ends_holds]
  simp only [Tree.holds_loop, Tree.holds_fork, Tree.holds_next, if_true, Tree.holds_cond, Tree.holds_letv, Tree.holds_leaf, Tree.holds_fail, decO, decA, decTup, decMach, decCore, decTrap, decInstr, decPart, decGuest, decConf, decEvent, decVcpu, decStep, bytesS, boolS, eventsS, intsS, guestsS, vcpusS, rowS, castL, Option.bind_some, Option.map_some, Option.some.injEq, Nat.beq_refl, beq_self_eq_true, Bool.and_self, cond_true, cond_false, eq_self, beq_iff_eq, beq_eq_false_iff_ne, bne_iff_ne, bne_eq_false_iff_eq, ne_eq, decide_eq_true_eq, decide_eq_false_iff_not, ble_true, ble_false, inRange_iff, inRange_false]
  unfold K.step
  repeat' (first | refine drop_ok ?_ | intro _ | with_reducible apply And.intro)
  all_goals first | (simp_all; done) | omega
  
theorem c_step_Step : SpecOk EB_0_1_2 51 S_step_Step := spec_sig ok_step_Step (n := 60) fun ⟨m, ⟨⟩⟩ h hok => a_step_Step m (of_decide_eq_true h) (ok_mach (okSL_head hok))
end

/-! replay_event -/

def S_replay_event : PSpec := psig [.mach, .event] [.mach] (.v (.iface 79 (.agg #[]))) (fun (m, e, _) => (K.evOk m e, K.evRes m e)) (pre := fun (m, e, _) => decide (m.mem.length ≤ 1099511627776 ∧ m.out.length ≤ 1099511627776))
noncomputable def PS_replay_event : FuncId → Option PSpec := lookP []
noncomputable def E_replay_event : Env := EB_0_1_2.adds [(25, S_step_Current), (24, S_step_StepNoTimer), (51, S_step_Step), (63, S_fetch_TimerPending)]

theorem ok_replay_event : EnvOk E_replay_event := okEB_0_1_2.adds (l := _) ⟨c_step_Current, c_step_StepNoTimer, c_step_Step, (up_to_0_1_2 c_fetch_TimerPending), trivial⟩
theorem po_replay_event : PSOk E_replay_event PS_replay_event := lookP_ok (B := E_replay_event) (l := []) trivial
theorem t_replay_event (m : PMach) (e : PEvent) : evFP E_replay_event PS_replay_event ⟨fun _ => none, fun i => Nat.beq i 6, []⟩ 60 36 (encArgs [.mach, .event] (m, e, ())) = bif (BEq.beq e.kind (1 : Int)) then (Tree.letv (okO [AT.b]) (K.due (PMach.mk m.core m.mem e.time m.out m.halted)) fun x0 => (bif x0 then (bif (decide (And ((List.length m.mem) ≤ 1099511627776) ((List.length m.out) ≤ 1099511627776))) then (Tree.letv (okO [AT.mach, AT.trap]) (K.step (PMach.mk m.core m.mem e.time m.out m.halted)) fun x1 => (Tree.leaf (SV.agg [(SV.arr IntKind.u32 16 x1.fst.core.regs), (SV.v (Value.int IntKind.u32 x1.fst.core.pc)), (SV.arr IntKind.u32 12 x1.fst.core.csr), (SV.rd ETy.u8 x1.fst.mem), (SV.v (Value.int IntKind.u64 x1.fst.time)), (SV.rd ETy.u8 x1.fst.out), (SV.v (Value.bool x1.fst.halted))]))) else (Tree.fail)) else ((Tree.next 4242 [(SV.v (Value.iface 79 (Value.agg #[])))] [])))) else (Tree.fork (bif (BEq.beq e.kind (2 : Int)) then (Tree.fork (Tree.fork (Tree.letv (okO [AT.instr, AT.trap]) (K.cur (PMach.mk m.core m.mem e.time m.out m.halted)) fun x0 => (bif (BEq.beq x0.snd.cause (0 : Int)) then (bif (BEq.beq x0.fst.op (21 : Int)) then (bif (BEq.beq x0.fst.imm (7 : Int)) then (bif (decide (And ((List.length m.mem) ≤ 1099511627776) ((List.length m.out) ≤ 1099511627776))) then (Tree.letv (okO [AT.mach, AT.trap]) (K.plain (PMach.mk m.core m.mem e.time m.out m.halted)) fun x1 => (Tree.leaf (SV.agg [(SV.arr IntKind.u32 16 x1.fst.core.regs), (SV.v (Value.int IntKind.u32 x1.fst.core.pc)),
 (SV.arr IntKind.u32 12 x1.fst.core.csr), (SV.rd ETy.u8 x1.fst.mem), (SV.v (Value.int IntKind.u64 x1.fst.time)), (SV.rd ETy.u8 x1.fst.out), (SV.v (Value.bool x1.fst.halted))]))) else (Tree.fail)) else ((Tree.next 4242 [(SV.v (Value.iface 79 (Value.agg #[])))] []))) else ((Tree.next 4242 [(SV.v (Value.iface 79 (Value.agg #[])))] []))) else ((Tree.next 4242 [(SV.v (Value.iface 79 (Value.agg #[])))] [])))) (Tree.letv (okO [AT.instr, AT.trap]) (K.cur (PMach.mk m.core m.mem e.time m.out m.halted)) fun x0 => (bif (BEq.beq x0.snd.cause (0 : Int)) then (bif (BEq.beq x0.fst.op (21 : Int)) then (bif (BEq.beq x0.fst.imm (7 : Int)) then (bif (decide (And ((List.length m.mem) ≤ 1099511627776) ((List.length m.out) ≤ 1099511627776))) then (Tree.letv (okO [AT.mach, AT.trap]) (K.plain (PMach.mk m.core m.mem e.time m.out m.halted)) fun x1 => (Tree.leaf (SV.agg [(SV.arr IntKind.u32 16 x1.fst.core.regs), (SV.v (Value.int IntKind.u32 x1.fst.core.pc)), (SV.arr IntKind.u32 12 x1.fst.core.csr), (SV.rd ETy.u8 x1.fst.mem), (SV.v (Value.int IntKind.u64 x1.fst.time)), (SV.rd ETy.u8 x1.fst.out), (SV.v (Value.bool x1.fst.halted))]))) else (Tree.fail)) else ((Tree.next 4242 [(SV.v (Value.iface 79 (Value.agg #[])))] []))) else ((Tree.next 4242 [(SV.v (Value.iface 79 (Value.agg #[])))] []))) else ((Tree.next 4242 [(SV.v (Value.iface 79 (Value.agg #[])))] []))))) (Tree.letv (okO [AT.instr, AT.trap]) (K.cur (PMach.mk m.core m.mem e.time m.out m.halted)) fun x0 => (bif (BEq.beq x0.snd.cause (0 : Int)) then (bif
 (BEq.beq x0.fst.op (21 : Int)) then (bif (BEq.beq x0.fst.imm (7 : Int)) then (bif (decide (And ((List.length m.mem) ≤ 1099511627776) ((List.length m.out) ≤ 1099511627776))) then (Tree.letv (okO [AT.mach, AT.trap]) (K.plain (PMach.mk m.core m.mem e.time m.out m.halted)) fun x1 => (Tree.leaf (SV.agg [(SV.arr IntKind.u32 16 x1.fst.core.regs), (SV.v (Value.int IntKind.u32 x1.fst.core.pc)), (SV.arr IntKind.u32 12 x1.fst.core.csr), (SV.rd ETy.u8 x1.fst.mem), (SV.v (Value.int IntKind.u64 x1.fst.time)), (SV.rd ETy.u8 x1.fst.out), (SV.v (Value.bool x1.fst.halted))]))) else (Tree.fail)) else ((Tree.next 4242 [(SV.v (Value.iface 79 (Value.agg #[])))] []))) else ((Tree.next 4242 [(SV.v (Value.iface 79 (Value.agg #[])))] []))) else ((Tree.next 4242 [(SV.v (Value.iface 79 (Value.agg #[])))] []))))) else (bif (BEq.beq e.kind (3 : Int)) then (Tree.fork (Tree.fork (Tree.letv (okO [AT.instr, AT.trap]) (K.cur (PMach.mk m.core m.mem e.time m.out m.halted)) fun x0 => (bif (BEq.beq x0.snd.cause (0 : Int)) then (bif (BEq.beq x0.fst.op (21 : Int)) then (bif (BEq.beq x0.fst.imm (8 : Int)) then (bif (decide (And ((List.length m.mem) ≤ 1099511627776) ((List.length m.out) ≤ 1099511627776))) then (Tree.letv (okO [AT.mach, AT.trap]) (K.plain (PMach.mk m.core m.mem e.time m.out m.halted)) fun x1 => (Tree.leaf (SV.agg [(SV.arr IntKind.u32 16 x1.fst.core.regs), (SV.v (Value.int IntKind.u32 x1.fst.core.pc)), (SV.arr IntKind.u32 12 x1.fst.core.csr), (SV.rd ETy.u8 x1.fst.mem), (SV.v (Value.int IntKind.u64
 x1.fst.time)), (SV.rd ETy.u8 x1.fst.out), (SV.v (Value.bool x1.fst.halted))]))) else (Tree.fail)) else ((Tree.next 4242 [(SV.v (Value.iface 79 (Value.agg #[])))] []))) else ((Tree.next 4242 [(SV.v (Value.iface 79 (Value.agg #[])))] []))) else ((Tree.next 4242 [(SV.v (Value.iface 79 (Value.agg #[])))] [])))) (Tree.letv (okO [AT.instr, AT.trap]) (K.cur (PMach.mk m.core m.mem e.time m.out m.halted)) fun x0 => (bif (BEq.beq x0.snd.cause (0 : Int)) then (bif (BEq.beq x0.fst.op (21 : Int)) then (bif (BEq.beq x0.fst.imm (8 : Int)) then (bif (decide (And ((List.length m.mem) ≤ 1099511627776) ((List.length m.out) ≤ 1099511627776))) then (Tree.letv (okO [AT.mach, AT.trap]) (K.plain (PMach.mk m.core m.mem e.time m.out m.halted)) fun x1 => (Tree.leaf (SV.agg [(SV.arr IntKind.u32 16 x1.fst.core.regs), (SV.v (Value.int IntKind.u32 x1.fst.core.pc)), (SV.arr IntKind.u32 12 x1.fst.core.csr), (SV.rd ETy.u8 x1.fst.mem), (SV.v (Value.int IntKind.u64 x1.fst.time)), (SV.rd ETy.u8 x1.fst.out), (SV.v (Value.bool x1.fst.halted))]))) else (Tree.fail)) else ((Tree.next 4242 [(SV.v (Value.iface 79 (Value.agg #[])))] []))) else ((Tree.next 4242 [(SV.v (Value.iface 79 (Value.agg #[])))] []))) else ((Tree.next 4242 [(SV.v (Value.iface 79 (Value.agg #[])))] []))))) (Tree.letv (okO [AT.instr, AT.trap]) (K.cur (PMach.mk m.core m.mem e.time m.out m.halted)) fun x0 => (bif (BEq.beq x0.snd.cause (0 : Int)) then (bif (BEq.beq x0.fst.op (21 : Int)) then (bif (BEq.beq x0.fst.imm (8 : Int)) then (bif (decide (And
 ((List.length m.mem) ≤ 1099511627776) ((List.length m.out) ≤ 1099511627776))) then (Tree.letv (okO [AT.mach, AT.trap]) (K.plain (PMach.mk m.core m.mem e.time m.out m.halted)) fun x1 => (Tree.leaf (SV.agg [(SV.arr IntKind.u32 16 x1.fst.core.regs), (SV.v (Value.int IntKind.u32 x1.fst.core.pc)), (SV.arr IntKind.u32 12 x1.fst.core.csr), (SV.rd ETy.u8 x1.fst.mem), (SV.v (Value.int IntKind.u64 x1.fst.time)), (SV.rd ETy.u8 x1.fst.out), (SV.v (Value.bool x1.fst.halted))]))) else (Tree.fail)) else ((Tree.next 4242 [(SV.v (Value.iface 79 (Value.agg #[])))] []))) else ((Tree.next 4242 [(SV.v (Value.iface 79 (Value.agg #[])))] []))) else ((Tree.next 4242 [(SV.v (Value.iface 79 (Value.agg #[])))] []))))) else (Tree.fork (Tree.fork (Tree.letv (okO [AT.instr, AT.trap]) (K.cur (PMach.mk m.core m.mem e.time m.out m.halted)) fun x0 => ((Tree.next 4242 [(SV.v (Value.iface 79 (Value.agg #[])))] []))) (Tree.letv (okO [AT.instr, AT.trap]) (K.cur (PMach.mk m.core m.mem e.time m.out m.halted)) fun x0 => ((Tree.next 4242 [(SV.v (Value.iface 79 (Value.agg #[])))] [])))) (Tree.letv (okO [AT.instr, AT.trap]) (K.cur (PMach.mk m.core m.mem e.time m.out m.halted)) fun x0 => ((Tree.next 4242 [(SV.v (Value.iface 79 (Value.agg #[])))] [])))))) (Tree.fork (bif (BEq.beq e.kind (2 : Int)) then (Tree.fork (Tree.fork (Tree.letv (okO [AT.instr, AT.trap]) (K.cur (PMach.mk m.core m.mem e.time m.out m.halted)) fun x0 => (bif (BEq.beq x0.snd.cause (0 : Int)) then (bif (BEq.beq x0.fst.op (21 : Int)) then (bif (BEq.beq
 x0.fst.imm (7 : Int)) then (bif (decide (And ((List.length m.mem) ≤ 1099511627776) ((List.length m.out) ≤ 1099511627776))) then (Tree.letv (okO [AT.mach, AT.trap]) (K.plain (PMach.mk m.core m.mem e.time m.out m.halted)) fun x1 => (Tree.leaf (SV.agg [(SV.arr IntKind.u32 16 x1.fst.core.regs), (SV.v (Value.int IntKind.u32 x1.fst.core.pc)), (SV.arr IntKind.u32 12 x1.fst.core.csr), (SV.rd ETy.u8 x1.fst.mem), (SV.v (Value.int IntKind.u64 x1.fst.time)), (SV.rd ETy.u8 x1.fst.out), (SV.v (Value.bool x1.fst.halted))]))) else (Tree.fail)) else ((Tree.next 4242 [(SV.v (Value.iface 79 (Value.agg #[])))] []))) else ((Tree.next 4242 [(SV.v (Value.iface 79 (Value.agg #[])))] []))) else ((Tree.next 4242 [(SV.v (Value.iface 79 (Value.agg #[])))] [])))) (Tree.letv (okO [AT.instr, AT.trap]) (K.cur (PMach.mk m.core m.mem e.time m.out m.halted)) fun x0 => (bif (BEq.beq x0.snd.cause (0 : Int)) then (bif (BEq.beq x0.fst.op (21 : Int)) then (bif (BEq.beq x0.fst.imm (7 : Int)) then (bif (decide (And ((List.length m.mem) ≤ 1099511627776) ((List.length m.out) ≤ 1099511627776))) then (Tree.letv (okO [AT.mach, AT.trap]) (K.plain (PMach.mk m.core m.mem e.time m.out m.halted)) fun x1 => (Tree.leaf (SV.agg [(SV.arr IntKind.u32 16 x1.fst.core.regs), (SV.v (Value.int IntKind.u32 x1.fst.core.pc)), (SV.arr IntKind.u32 12 x1.fst.core.csr), (SV.rd ETy.u8 x1.fst.mem), (SV.v (Value.int IntKind.u64 x1.fst.time)), (SV.rd ETy.u8 x1.fst.out), (SV.v (Value.bool x1.fst.halted))]))) else (Tree.fail)) else ((Tree.next 4242
 [(SV.v (Value.iface 79 (Value.agg #[])))] []))) else ((Tree.next 4242 [(SV.v (Value.iface 79 (Value.agg #[])))] []))) else ((Tree.next 4242 [(SV.v (Value.iface 79 (Value.agg #[])))] []))))) (Tree.letv (okO [AT.instr, AT.trap]) (K.cur (PMach.mk m.core m.mem e.time m.out m.halted)) fun x0 => (bif (BEq.beq x0.snd.cause (0 : Int)) then (bif (BEq.beq x0.fst.op (21 : Int)) then (bif (BEq.beq x0.fst.imm (7 : Int)) then (bif (decide (And ((List.length m.mem) ≤ 1099511627776) ((List.length m.out) ≤ 1099511627776))) then (Tree.letv (okO [AT.mach, AT.trap]) (K.plain (PMach.mk m.core m.mem e.time m.out m.halted)) fun x1 => (Tree.leaf (SV.agg [(SV.arr IntKind.u32 16 x1.fst.core.regs), (SV.v (Value.int IntKind.u32 x1.fst.core.pc)), (SV.arr IntKind.u32 12 x1.fst.core.csr), (SV.rd ETy.u8 x1.fst.mem), (SV.v (Value.int IntKind.u64 x1.fst.time)), (SV.rd ETy.u8 x1.fst.out), (SV.v (Value.bool x1.fst.halted))]))) else (Tree.fail)) else ((Tree.next 4242 [(SV.v (Value.iface 79 (Value.agg #[])))] []))) else ((Tree.next 4242 [(SV.v (Value.iface 79 (Value.agg #[])))] []))) else ((Tree.next 4242 [(SV.v (Value.iface 79 (Value.agg #[])))] []))))) else (bif (BEq.beq e.kind (3 : Int)) then (Tree.fork (Tree.fork (Tree.letv (okO [AT.instr, AT.trap]) (K.cur (PMach.mk m.core m.mem e.time m.out m.halted)) fun x0 => (bif (BEq.beq x0.snd.cause (0 : Int)) then (bif (BEq.beq x0.fst.op (21 : Int)) then (bif (BEq.beq x0.fst.imm (8 : Int)) then (bif (decide (And ((List.length m.mem) ≤ 1099511627776) ((List.length m.out)
 ≤ 1099511627776))) then (Tree.letv (okO [AT.mach, AT.trap]) (K.plain (PMach.mk m.core m.mem e.time m.out m.halted)) fun x1 => (Tree.leaf (SV.agg [(SV.arr IntKind.u32 16 x1.fst.core.regs), (SV.v (Value.int IntKind.u32 x1.fst.core.pc)), (SV.arr IntKind.u32 12 x1.fst.core.csr), (SV.rd ETy.u8 x1.fst.mem), (SV.v (Value.int IntKind.u64 x1.fst.time)), (SV.rd ETy.u8 x1.fst.out), (SV.v (Value.bool x1.fst.halted))]))) else (Tree.fail)) else ((Tree.next 4242 [(SV.v (Value.iface 79 (Value.agg #[])))] []))) else ((Tree.next 4242 [(SV.v (Value.iface 79 (Value.agg #[])))] []))) else ((Tree.next 4242 [(SV.v (Value.iface 79 (Value.agg #[])))] [])))) (Tree.letv (okO [AT.instr, AT.trap]) (K.cur (PMach.mk m.core m.mem e.time m.out m.halted)) fun x0 => (bif (BEq.beq x0.snd.cause (0 : Int)) then (bif (BEq.beq x0.fst.op (21 : Int)) then (bif (BEq.beq x0.fst.imm (8 : Int)) then (bif (decide (And ((List.length m.mem) ≤ 1099511627776) ((List.length m.out) ≤ 1099511627776))) then (Tree.letv (okO [AT.mach, AT.trap]) (K.plain (PMach.mk m.core m.mem e.time m.out m.halted)) fun x1 => (Tree.leaf (SV.agg [(SV.arr IntKind.u32 16 x1.fst.core.regs), (SV.v (Value.int IntKind.u32 x1.fst.core.pc)), (SV.arr IntKind.u32 12 x1.fst.core.csr), (SV.rd ETy.u8 x1.fst.mem), (SV.v (Value.int IntKind.u64 x1.fst.time)), (SV.rd ETy.u8 x1.fst.out), (SV.v (Value.bool x1.fst.halted))]))) else (Tree.fail)) else ((Tree.next 4242 [(SV.v (Value.iface 79 (Value.agg #[])))] []))) else ((Tree.next 4242 [(SV.v (Value.iface 79 (Value.agg
 #[])))] []))) else ((Tree.next 4242 [(SV.v (Value.iface 79 (Value.agg #[])))] []))))) (Tree.letv (okO [AT.instr, AT.trap]) (K.cur (PMach.mk m.core m.mem e.time m.out m.halted)) fun x0 => (bif (BEq.beq x0.snd.cause (0 : Int)) then (bif (BEq.beq x0.fst.op (21 : Int)) then (bif (BEq.beq x0.fst.imm (8 : Int)) then (bif (decide (And ((List.length m.mem) ≤ 1099511627776) ((List.length m.out) ≤ 1099511627776))) then (Tree.letv (okO [AT.mach, AT.trap]) (K.plain (PMach.mk m.core m.mem e.time m.out m.halted)) fun x1 => (Tree.leaf (SV.agg [(SV.arr IntKind.u32 16 x1.fst.core.regs), (SV.v (Value.int IntKind.u32 x1.fst.core.pc)), (SV.arr IntKind.u32 12 x1.fst.core.csr), (SV.rd ETy.u8 x1.fst.mem), (SV.v (Value.int IntKind.u64 x1.fst.time)), (SV.rd ETy.u8 x1.fst.out), (SV.v (Value.bool x1.fst.halted))]))) else (Tree.fail)) else ((Tree.next 4242 [(SV.v (Value.iface 79 (Value.agg #[])))] []))) else ((Tree.next 4242 [(SV.v (Value.iface 79 (Value.agg #[])))] []))) else ((Tree.next 4242 [(SV.v (Value.iface 79 (Value.agg #[])))] []))))) else (Tree.fork (Tree.fork (Tree.letv (okO [AT.instr, AT.trap]) (K.cur (PMach.mk m.core m.mem e.time m.out m.halted)) fun x0 => ((Tree.next 4242 [(SV.v (Value.iface 79 (Value.agg #[])))] []))) (Tree.letv (okO [AT.instr, AT.trap]) (K.cur (PMach.mk m.core m.mem e.time m.out m.halted)) fun x0 => ((Tree.next 4242 [(SV.v (Value.iface 79 (Value.agg #[])))] [])))) (Tree.letv (okO [AT.instr, AT.trap]) (K.cur (PMach.mk m.core m.mem e.time m.out m.halted)) fun x0 =>
 ((Tree.next 4242 [(SV.v (Value.iface 79 (Value.agg #[])))] [])))))) (bif (BEq.beq e.kind (2 : Int)) then (Tree.fork (Tree.fork (Tree.letv (okO [AT.instr, AT.trap]) (K.cur (PMach.mk m.core m.mem e.time m.out m.halted)) fun x0 => (bif (BEq.beq x0.snd.cause (0 : Int)) then (bif (BEq.beq x0.fst.op (21 : Int)) then (bif (BEq.beq x0.fst.imm (7 : Int)) then (bif (decide (And ((List.length m.mem) ≤ 1099511627776) ((List.length m.out) ≤ 1099511627776))) then (Tree.letv (okO [AT.mach, AT.trap]) (K.plain (PMach.mk m.core m.mem e.time m.out m.halted)) fun x1 => (Tree.leaf (SV.agg [(SV.arr IntKind.u32 16 x1.fst.core.regs), (SV.v (Value.int IntKind.u32 x1.fst.core.pc)), (SV.arr IntKind.u32 12 x1.fst.core.csr), (SV.rd ETy.u8 x1.fst.mem), (SV.v (Value.int IntKind.u64 x1.fst.time)), (SV.rd ETy.u8 x1.fst.out), (SV.v (Value.bool x1.fst.halted))]))) else (Tree.fail)) else ((Tree.next 4242 [(SV.v (Value.iface 79 (Value.agg #[])))] []))) else ((Tree.next 4242 [(SV.v (Value.iface 79 (Value.agg #[])))] []))) else ((Tree.next 4242 [(SV.v (Value.iface 79 (Value.agg #[])))] [])))) (Tree.letv (okO [AT.instr, AT.trap]) (K.cur (PMach.mk m.core m.mem e.time m.out m.halted)) fun x0 => (bif (BEq.beq x0.snd.cause (0 : Int)) then (bif (BEq.beq x0.fst.op (21 : Int)) then (bif (BEq.beq x0.fst.imm (7 : Int)) then (bif (decide (And ((List.length m.mem) ≤ 1099511627776) ((List.length m.out) ≤ 1099511627776))) then (Tree.letv (okO [AT.mach, AT.trap]) (K.plain (PMach.mk m.core m.mem e.time m.out m.halted)) fun x1 =>
 (Tree.leaf (SV.agg [(SV.arr IntKind.u32 16 x1.fst.core.regs), (SV.v (Value.int IntKind.u32 x1.fst.core.pc)), (SV.arr IntKind.u32 12 x1.fst.core.csr), (SV.rd ETy.u8 x1.fst.mem), (SV.v (Value.int IntKind.u64 x1.fst.time)), (SV.rd ETy.u8 x1.fst.out), (SV.v (Value.bool x1.fst.halted))]))) else (Tree.fail)) else ((Tree.next 4242 [(SV.v (Value.iface 79 (Value.agg #[])))] []))) else ((Tree.next 4242 [(SV.v (Value.iface 79 (Value.agg #[])))] []))) else ((Tree.next 4242 [(SV.v (Value.iface 79 (Value.agg #[])))] []))))) (Tree.letv (okO [AT.instr, AT.trap]) (K.cur (PMach.mk m.core m.mem e.time m.out m.halted)) fun x0 => (bif (BEq.beq x0.snd.cause (0 : Int)) then (bif (BEq.beq x0.fst.op (21 : Int)) then (bif (BEq.beq x0.fst.imm (7 : Int)) then (bif (decide (And ((List.length m.mem) ≤ 1099511627776) ((List.length m.out) ≤ 1099511627776))) then (Tree.letv (okO [AT.mach, AT.trap]) (K.plain (PMach.mk m.core m.mem e.time m.out m.halted)) fun x1 => (Tree.leaf (SV.agg [(SV.arr IntKind.u32 16 x1.fst.core.regs), (SV.v (Value.int IntKind.u32 x1.fst.core.pc)), (SV.arr IntKind.u32 12 x1.fst.core.csr), (SV.rd ETy.u8 x1.fst.mem), (SV.v (Value.int IntKind.u64 x1.fst.time)), (SV.rd ETy.u8 x1.fst.out), (SV.v (Value.bool x1.fst.halted))]))) else (Tree.fail)) else ((Tree.next 4242 [(SV.v (Value.iface 79 (Value.agg #[])))] []))) else ((Tree.next 4242 [(SV.v (Value.iface 79 (Value.agg #[])))] []))) else ((Tree.next 4242 [(SV.v (Value.iface 79 (Value.agg #[])))] []))))) else (bif (BEq.beq e.kind (3 : Int))
 then (Tree.fork (Tree.fork (Tree.letv (okO [AT.instr, AT.trap]) (K.cur (PMach.mk m.core m.mem e.time m.out m.halted)) fun x0 => (bif (BEq.beq x0.snd.cause (0 : Int)) then (bif (BEq.beq x0.fst.op (21 : Int)) then (bif (BEq.beq x0.fst.imm (8 : Int)) then (bif (decide (And ((List.length m.mem) ≤ 1099511627776) ((List.length m.out) ≤ 1099511627776))) then (Tree.letv (okO [AT.mach, AT.trap]) (K.plain (PMach.mk m.core m.mem e.time m.out m.halted)) fun x1 => (Tree.leaf (SV.agg [(SV.arr IntKind.u32 16 x1.fst.core.regs), (SV.v (Value.int IntKind.u32 x1.fst.core.pc)), (SV.arr IntKind.u32 12 x1.fst.core.csr), (SV.rd ETy.u8 x1.fst.mem), (SV.v (Value.int IntKind.u64 x1.fst.time)), (SV.rd ETy.u8 x1.fst.out), (SV.v (Value.bool x1.fst.halted))]))) else (Tree.fail)) else ((Tree.next 4242 [(SV.v (Value.iface 79 (Value.agg #[])))] []))) else ((Tree.next 4242 [(SV.v (Value.iface 79 (Value.agg #[])))] []))) else ((Tree.next 4242 [(SV.v (Value.iface 79 (Value.agg #[])))] [])))) (Tree.letv (okO [AT.instr, AT.trap]) (K.cur (PMach.mk m.core m.mem e.time m.out m.halted)) fun x0 => (bif (BEq.beq x0.snd.cause (0 : Int)) then (bif (BEq.beq x0.fst.op (21 : Int)) then (bif (BEq.beq x0.fst.imm (8 : Int)) then (bif (decide (And ((List.length m.mem) ≤ 1099511627776) ((List.length m.out) ≤ 1099511627776))) then (Tree.letv (okO [AT.mach, AT.trap]) (K.plain (PMach.mk m.core m.mem e.time m.out m.halted)) fun x1 => (Tree.leaf (SV.agg [(SV.arr IntKind.u32 16 x1.fst.core.regs), (SV.v (Value.int IntKind.u32
 x1.fst.core.pc)), (SV.arr IntKind.u32 12 x1.fst.core.csr), (SV.rd ETy.u8 x1.fst.mem), (SV.v (Value.int IntKind.u64 x1.fst.time)), (SV.rd ETy.u8 x1.fst.out), (SV.v (Value.bool x1.fst.halted))]))) else (Tree.fail)) else ((Tree.next 4242 [(SV.v (Value.iface 79 (Value.agg #[])))] []))) else ((Tree.next 4242 [(SV.v (Value.iface 79 (Value.agg #[])))] []))) else ((Tree.next 4242 [(SV.v (Value.iface 79 (Value.agg #[])))] []))))) (Tree.letv (okO [AT.instr, AT.trap]) (K.cur (PMach.mk m.core m.mem e.time m.out m.halted)) fun x0 => (bif (BEq.beq x0.snd.cause (0 : Int)) then (bif (BEq.beq x0.fst.op (21 : Int)) then (bif (BEq.beq x0.fst.imm (8 : Int)) then (bif (decide (And ((List.length m.mem) ≤ 1099511627776) ((List.length m.out) ≤ 1099511627776))) then (Tree.letv (okO [AT.mach, AT.trap]) (K.plain (PMach.mk m.core m.mem e.time m.out m.halted)) fun x1 => (Tree.leaf (SV.agg [(SV.arr IntKind.u32 16 x1.fst.core.regs), (SV.v (Value.int IntKind.u32 x1.fst.core.pc)), (SV.arr IntKind.u32 12 x1.fst.core.csr), (SV.rd ETy.u8 x1.fst.mem), (SV.v (Value.int IntKind.u64 x1.fst.time)), (SV.rd ETy.u8 x1.fst.out), (SV.v (Value.bool x1.fst.halted))]))) else (Tree.fail)) else ((Tree.next 4242 [(SV.v (Value.iface 79 (Value.agg #[])))] []))) else ((Tree.next 4242 [(SV.v (Value.iface 79 (Value.agg #[])))] []))) else ((Tree.next 4242 [(SV.v (Value.iface 79 (Value.agg #[])))] []))))) else (Tree.fork (Tree.fork (Tree.letv (okO [AT.instr, AT.trap]) (K.cur (PMach.mk m.core m.mem e.time m.out m.halted)) fun x0 =>
 ((Tree.next 4242 [(SV.v (Value.iface 79 (Value.agg #[])))] []))) (Tree.letv (okO [AT.instr, AT.trap]) (K.cur (PMach.mk m.core m.mem e.time m.out m.halted)) fun x0 => ((Tree.next 4242 [(SV.v (Value.iface 79 (Value.agg #[])))] [])))) (Tree.letv (okO [AT.instr, AT.trap]) (K.cur (PMach.mk m.core m.mem e.time m.out m.halted)) fun x0 => ((Tree.next 4242 [(SV.v (Value.iface 79 (Value.agg #[])))] [])))))))) := by kernel_rfl
section
attribute [local irreducible] evF evFL evFLs evFP
theorem a_replay_event (m : PMach) (e : PEvent) (hpre : m.mem.length ≤ 1099511627776 ∧ m.out.length ≤ 1099511627776) (ok_m : okMach m) (ok_e : okEvent e) : (evFP E_replay_event PS_replay_event ⟨fun _ => none, fun i => Nat.beq i 6, []⟩ 60 36 (encArgs [.mach, .event] (m, e, ()))).holds ⟨fun out_ => ((K.evOk m e, K.evRes m e)).1 = true ∧ decO [.mach] out_ = some ((K.evOk m e, K.evRes m e)).2, fun l_ vs_ bs_ => l_ = 4242 ∧ ∃ v_, vs_ = [v_] ∧ (((K.evOk m e, K.evRes m e)).1 = false ∧ v_ = .v (.iface 79 (.agg #[])))⟩ := by
  rw [t_replay_event]
  obtain ⟨hm, ho⟩ := hpre
  have hcm : decide (m.mem.length ≤ 1099511627776 ∧ m.out.length ≤ 1099511627776) = true := decide_eq_true ⟨hm, ho⟩
  simp only [hcm]
  have e1 : ({ core := m.core, mem := m.mem, time := e.time, out := m.out, halted := m.halted } : PMach) = K.timed m e.time := rfl
  simp only [e1, Tree.holds_loop, Tree.holds_fork, Tree.holds_next, if_true, Tree.holds_cond, Tree.holds_letv, Tree.holds_leaf, Tree.holds_fail, decO, decA, decTup, decMach, decCore, decTrap, decInstr, decPart, decGuest, decConf, decEvent, decVcpu, decStep, bytesS, boolS, eventsS, intsS, guestsS, vcpusS, rowS, castL, Option.bind_some, Option.map_some, Option.some.injEq, Nat.beq_refl, beq_self_eq_true, Bool.and_self, cond_true, cond_false, eq_self, beq_iff_eq, beq_eq_false_iff_ne, bne_iff_ne, bne_eq_false_iff_eq, ne_eq, decide_eq_true_eq, decide_eq_false_iff_not, ble_true, ble_false, inRange_iff, inRange_false, cond_true]
  have r1 : e.kind = 1 → K.evRes m e = (K.step (K.timed m e.time)).1 := fun h => by unfold K.evRes; rw [if_pos h]
  have r2 : ¬ e.kind = 1 → K.evRes m e = (K.plain (K.timed m e.time)).1 := fun h => by unfold K.evRes; rw [if_neg h]
  repeat' (first | refine drop_ok ?_ | intro _ | with_reducible apply And.intro)
  all_goals first
    | trivial
    | exact (r1 (by assumption)).symm
    | exact (r2 (by assumption)).symm
    | (simp [K.evOk, *]; done)
  
theorem c_replay_event : PSpecOk EB_0_1_2 36 S_replay_event := spec_sigP ok_replay_event po_replay_event (n := 60) (fun (m, e, _) => ⟨fun _ => none, fun i => Nat.beq i 6, []⟩) fun ⟨m, e, ⟨⟩⟩ h hok => a_replay_event m e (of_decide_eq_true h) (ok_mach (okSL_head hok)) (ok_event (okSL_head (okSL_tail hok)))
end

/-! replay_Replay -/
@[reducible] def L_Replay (g : PGuest) (n : Int) (log : List PEvent) : LoopSpec where
  σ := Nat
  slots := [1, 2, 6, 7, 8]
  keys := [6, 8]
  vals := fun i => [.v (.int .i64 n), .rd .event (K.repS (K.bareG g) log i).2, .loc 0 0 0 1, .v (.int .i64 (i : Int)), .loc 1 0 0 1]
  blks := fun i => [.cells (machC (K.repS (K.bareG g) log i).1) 30, .cells [.b false] 4]
  inv := fun i => i ≤ n.toNat ∧ K.repEnd (K.bareG g) log (n.toNat - i) i = K.repN (K.bareG g) n log ∧ (K.repS (K.bareG g) log i).1.mem.length = g.part.size.toNat ∧ (K.repS (K.bareG g) log i).1.out.length ≤ i
  mu := fun i => n.toNat - i
def S_replay_Replay : Spec := sig [.guest, .i .i64, .rd .event] [.mach, .i .i64, .b] (fun (g, n, log, _) => K.replay (K.bareG g) n log) (pre := fun (g, n, log, _) => decide (n ≤ 1073741824 ∧ g.mem.length ≤ 1099511627776))
noncomputable def PS_replay_Replay : FuncId → Option PSpec := lookP [(37, S_replay_plain), (36, S_replay_event)]
noncomputable def E_replay_Replay : Env := EB_0_1_2.adds [(34, S_config_BareGuest)]

theorem ok_replay_Replay : EnvOk E_replay_Replay := okEB_0_1_2.adds (l := _) ⟨(up_to_0_1_2 c_config_BareGuest), trivial⟩
theorem po_replay_Replay : PSOk E_replay_Replay PS_replay_Replay := lookP_ok (B := E_replay_Replay) (l := [(37, S_replay_plain), (36, S_replay_event)]) ⟨c_replay_plain, c_replay_event, trivial⟩
theorem t_replay_Replay (g : PGuest) (n : Int) (log : List PEvent) : evFP E_replay_Replay PS_replay_Replay ⟨fun b => if b = 0 then some (fun _ => L_Replay g n log) else none, fun _ => false, [8]⟩ 60 21 (encArgs [.guest, .i .i64, .rd .event] (g, n, log, ())) = bif (decide ((List.length g.mem) ≤ 1099511627776)) then (Tree.letv (okO [AT.mach]) (K.bareG g) fun x0 => (Tree.loop 0 (L_Replay g n log) [(SV.v (Value.int IntKind.i64 n)), (SV.rd ETy.event log), (SV.loc 0 0 0 1), (SV.v (Value.int IntKind.i64 (0 : Int))), (SV.loc 1 0 0 1)] [(Blk.cells [(SV.arr IntKind.u32 16 x0.core.regs), (SV.v (Value.int IntKind.u32 x0.core.pc)), (SV.arr IntKind.u32 12 x0.core.csr), (SV.rd ETy.u8 x0.mem), (SV.v (Value.int IntKind.u64 x0.time)), (SV.rd ETy.u8 x0.out), (SV.v (Value.bool x0.halted))] 30), (Blk.cells [(SV.b false)] 4)] fun (x1 : Nat) => (bif (decide ((Int.ofNat x1) < n)) then (bif (K.repS (K.bareG g) log x1).fst.halted then (Tree.leaf (SV.tup [(SV.agg [(SV.arr IntKind.u32 16 (K.repS (K.bareG g) log x1).fst.core.regs), (SV.v (Value.int IntKind.u32 (K.repS (K.bareG g) log x1).fst.core.pc)), (SV.arr IntKind.u32 12 (K.repS (K.bareG g) log x1).fst.core.csr), (SV.rd ETy.u8 (K.repS (K.bareG g) log x1).fst.mem), (SV.v (Value.int IntKind.u64 (K.repS (K.bareG g) log x1).fst.time)), (SV.rd ETy.u8 (K.repS (K.bareG g) log x1).fst.out), (SV.v (Value.bool (K.repS (K.bareG g) log x1).fst.halted))]), (SV.v (Value.int IntKind.i64 (Int.ofNat x1))), (SV.b false)])) else (bif (decide ((Int.ofNat (List.length
 (K.repS (K.bareG g) log x1).snd)) > (0 : Int))) then (bif (inRange (0 : Int) (List.length (K.repS (K.bareG g) log x1).snd)) then (bif (BEq.beq (List.getD (K.repS (K.bareG g) log x1).snd 0 (PEvent.mk (0 : Int) (0 : Int) (0 : Int))).at_ (Int.ofNat x1)) then (bif (inRange (0 : Int) (List.length (K.repS (K.bareG g) log x1).snd)) then (bif (decide (And ((List.length (K.repS (K.bareG g) log x1).fst.mem) ≤ 1099511627776) ((List.length (K.repS (K.bareG g) log x1).fst.out) ≤ 1099511627776))) then (Tree.letv (okP (okO [AT.mach])) ((K.evOk (K.repS (K.bareG g) log x1).fst (List.getD (K.repS (K.bareG g) log x1).snd 0 (PEvent.mk (0 : Int) (0 : Int) (0 : Int)))), (K.evRes (K.repS (K.bareG g) log x1).fst (List.getD (K.repS (K.bareG g) log x1).snd 0 (PEvent.mk (0 : Int) (0 : Int) (0 : Int))))) fun x2 => (bif x2.fst then (bif (Bool.and (decide ((1 : Int) ≤ (Int.ofNat (List.length (K.repS (K.bareG g) log x1).snd)))) (decide ((Int.ofNat (List.length (K.repS (K.bareG g) log x1).snd)) ≤ (Int.ofNat (List.length (K.repS (K.bareG g) log x1).snd))))) then ((Tree.next 0 [(SV.v (Value.int IntKind.i64 n)), (SV.rd ETy.event (List.drop 1 (List.take (Int.toNat (Int.ofNat (List.length (K.repS (K.bareG g) log x1).snd))) (K.repS (K.bareG g) log x1).snd))), (SV.loc 0 0 0 1), (SV.v (Value.int IntKind.i64 (IntKind.wrap IntKind.i64 ((Int.ofNat x1) + (1 : Int))))), (SV.loc 1 0 0 1)] [(Blk.cells [(SV.arr IntKind.u32 16 x2.snd.core.regs), (SV.v (Value.int IntKind.u32 x2.snd.core.pc)), (SV.arr IntKind.u32 12
 x2.snd.core.csr), (SV.rd ETy.u8 x2.snd.mem), (SV.v (Value.int IntKind.u64 x2.snd.time)), (SV.rd ETy.u8 x2.snd.out), (SV.v (Value.bool x2.snd.halted))] 30), (Blk.cells [(SV.b false)] 4)])) else (Tree.fail)) else (Tree.leaf (SV.tup [(SV.agg [(SV.arr IntKind.u32 16 (K.repS (K.bareG g) log x1).fst.core.regs), (SV.v (Value.int IntKind.u32 (K.repS (K.bareG g) log x1).fst.core.pc)), (SV.arr IntKind.u32 12 (K.repS (K.bareG g) log x1).fst.core.csr), (SV.rd ETy.u8 (K.repS (K.bareG g) log x1).fst.mem), (SV.v (Value.int IntKind.u64 (K.repS (K.bareG g) log x1).fst.time)), (SV.rd ETy.u8 (K.repS (K.bareG g) log x1).fst.out), (SV.v (Value.bool (K.repS (K.bareG g) log x1).fst.halted))]), (SV.v (Value.int IntKind.i64 (Int.ofNat x1))), (SV.b false)])))) else (Tree.fail)) else (Tree.fail)) else (bif (decide (And ((List.length (K.repS (K.bareG g) log x1).fst.mem) ≤ 1099511627776) ((List.length (K.repS (K.bareG g) log x1).fst.out) ≤ 1099511627776))) then (Tree.letv (okP (okO [AT.mach])) ((K.plOk (K.repS (K.bareG g) log x1).fst), (K.plain (K.repS (K.bareG g) log x1).fst).fst) fun x2 => (bif x2.fst then ((Tree.next 0 [(SV.v (Value.int IntKind.i64 n)), (SV.rd ETy.event (K.repS (K.bareG g) log x1).snd), (SV.loc 0 0 0 1), (SV.v (Value.int IntKind.i64 (IntKind.wrap IntKind.i64 ((Int.ofNat x1) + (1 : Int))))), (SV.loc 1 0 0 1)] [(Blk.cells [(SV.arr IntKind.u32 16 x2.snd.core.regs), (SV.v (Value.int IntKind.u32 x2.snd.core.pc)), (SV.arr IntKind.u32 12 x2.snd.core.csr), (SV.rd ETy.u8 x2.snd.mem), (SV.v
 (Value.int IntKind.u64 x2.snd.time)), (SV.rd ETy.u8 x2.snd.out), (SV.v (Value.bool x2.snd.halted))] 30), (Blk.cells [(SV.b false)] 4)])) else (Tree.leaf (SV.tup [(SV.agg [(SV.arr IntKind.u32 16 (K.repS (K.bareG g) log x1).fst.core.regs), (SV.v (Value.int IntKind.u32 (K.repS (K.bareG g) log x1).fst.core.pc)), (SV.arr IntKind.u32 12 (K.repS (K.bareG g) log x1).fst.core.csr), (SV.rd ETy.u8 (K.repS (K.bareG g) log x1).fst.mem), (SV.v (Value.int IntKind.u64 (K.repS (K.bareG g) log x1).fst.time)), (SV.rd ETy.u8 (K.repS (K.bareG g) log x1).fst.out), (SV.v (Value.bool (K.repS (K.bareG g) log x1).fst.halted))]), (SV.v (Value.int IntKind.i64 (Int.ofNat x1))), (SV.b false)])))) else (Tree.fail))) else (Tree.fail)) else (bif (decide (And ((List.length (K.repS (K.bareG g) log x1).fst.mem) ≤ 1099511627776) ((List.length (K.repS (K.bareG g) log x1).fst.out) ≤ 1099511627776))) then (Tree.letv (okP (okO [AT.mach])) ((K.plOk (K.repS (K.bareG g) log x1).fst), (K.plain (K.repS (K.bareG g) log x1).fst).fst) fun x2 => (bif x2.fst then ((Tree.next 0 [(SV.v (Value.int IntKind.i64 n)), (SV.rd ETy.event (K.repS (K.bareG g) log x1).snd), (SV.loc 0 0 0 1), (SV.v (Value.int IntKind.i64 (IntKind.wrap IntKind.i64 ((Int.ofNat x1) + (1 : Int))))), (SV.loc 1 0 0 1)] [(Blk.cells [(SV.arr IntKind.u32 16 x2.snd.core.regs), (SV.v (Value.int IntKind.u32 x2.snd.core.pc)), (SV.arr IntKind.u32 12 x2.snd.core.csr), (SV.rd ETy.u8 x2.snd.mem), (SV.v (Value.int IntKind.u64 x2.snd.time)), (SV.rd ETy.u8 x2.snd.out), (SV.v
 (Value.bool x2.snd.halted))] 30), (Blk.cells [(SV.b false)] 4)])) else (Tree.leaf (SV.tup [(SV.agg [(SV.arr IntKind.u32 16 (K.repS (K.bareG g) log x1).fst.core.regs), (SV.v (Value.int IntKind.u32 (K.repS (K.bareG g) log x1).fst.core.pc)), (SV.arr IntKind.u32 12 (K.repS (K.bareG g) log x1).fst.core.csr), (SV.rd ETy.u8 (K.repS (K.bareG g) log x1).fst.mem), (SV.v (Value.int IntKind.u64 (K.repS (K.bareG g) log x1).fst.time)), (SV.rd ETy.u8 (K.repS (K.bareG g) log x1).fst.out), (SV.v (Value.bool (K.repS (K.bareG g) log x1).fst.halted))]), (SV.v (Value.int IntKind.i64 (Int.ofNat x1))), (SV.b false)])))) else (Tree.fail)))) else (bif (BEq.beq (Int.ofNat (List.length (K.repS (K.bareG g) log x1).snd)) (0 : Int)) then (Tree.leaf (SV.tup [(SV.agg [(SV.arr IntKind.u32 16 (K.repS (K.bareG g) log x1).fst.core.regs), (SV.v (Value.int IntKind.u32 (K.repS (K.bareG g) log x1).fst.core.pc)), (SV.arr IntKind.u32 12 (K.repS (K.bareG g) log x1).fst.core.csr), (SV.rd ETy.u8 (K.repS (K.bareG g) log x1).fst.mem), (SV.v (Value.int IntKind.u64 (K.repS (K.bareG g) log x1).fst.time)), (SV.rd ETy.u8 (K.repS (K.bareG g) log x1).fst.out), (SV.v (Value.bool (K.repS (K.bareG g) log x1).fst.halted))]), (SV.v (Value.int IntKind.i64 (Int.ofNat x1))), (SV.b true)])) else (Tree.leaf (SV.tup [(SV.agg [(SV.arr IntKind.u32 16 (K.repS (K.bareG g) log x1).fst.core.regs), (SV.v (Value.int IntKind.u32 (K.repS (K.bareG g) log x1).fst.core.pc)), (SV.arr IntKind.u32 12 (K.repS (K.bareG g) log x1).fst.core.csr), (SV.rd ETy.u8
 (K.repS (K.bareG g) log x1).fst.mem), (SV.v (Value.int IntKind.u64 (K.repS (K.bareG g) log x1).fst.time)), (SV.rd ETy.u8 (K.repS (K.bareG g) log x1).fst.out), (SV.v (Value.bool (K.repS (K.bareG g) log x1).fst.halted))]), (SV.v (Value.int IntKind.i64 (Int.ofNat x1))), (SV.b false)])))))) else (Tree.fail) := by kernel_rfl
section
attribute [local irreducible] evF evFL evFLs evFP
theorem a_replay_Replay (g : PGuest) (n : Int) (log : List PEvent) (hpre : n ≤ 1073741824 ∧ g.mem.length ≤ 1099511627776) (ok_g : okGuest g) (ok_n : okI .i64 n) (ok_log : okEvents log) : (evFP E_replay_Replay PS_replay_Replay ⟨fun b => if b = 0 then some (fun _ => L_Replay g n log) else none, fun _ => false, [8]⟩ 60 21 (encArgs [.guest, .i .i64, .rd .event] (g, n, log, ()))).ends fun out_ => decO [.mach, .i .i64, .b] out_ = some (K.replay (K.bareG g) n log) := by
  rw [t_replay_Replay, Tree.ends_holds]
  obtain ⟨hn, hg⟩ := hpre
  obtain ⟨s0, s1⟩ := okI_u32 ok_g.part.size
  simp only [decide_eq_true hg, cond_true, Tree.holds_letv]
  intro _
  rw [Tree.holds_loop]
  refine ⟨⟨(0 : Nat), rfl, rfl, ⟨Nat.zero_le _, rfl, (bareG_lens g).1, Nat.le_of_eq (bareG_lens g).2⟩, trivial⟩, fun (i : Nat) hx => ?_⟩
  obtain ⟨i1, i2, i3, i4⟩ := hx
  have i1 : i ≤ n.toNat := i1
  have i2 : K.repEnd (K.bareG g) log (n.toNat - i) i = K.repN (K.bareG g) n log := i2
  have i3 : (K.repS (K.bareG g) log i).1.mem.length = g.part.size.toNat := i3
  have i4 : (K.repS (K.bareG g) log i).1.out.length ≤ i := i4
  have w1 : IntKind.i64.wrap ((i : Int) + 1) = ((i + 1 : Nat) : Int) := by rw [wrapI64 (by omega) (by omega)]; rfl
  have hpre : decide ((K.repS (K.bareG g) log i).1.mem.length ≤ 1099511627776 ∧ (K.repS (K.bareG g) log i).1.out.length ≤ 1099511627776) = true := decide_eq_true ⟨by omega, by omega⟩
  have hend := fun q => replay_end i2 i1 q
  have hbad := fun q1 q2 => replay_bad i2 q1 q2
  have hnext : ∀ (m' : PMach) (l' : List PEvent), K.repS (K.bareG g) log (i + 1) = (m', l') → (i : Int) < n → K.goodR (K.repS (K.bareG g) log i) (i : Int) = true → (L_Replay g n log).at (fun y => (L_Replay g n log).mu y < (L_Replay g n log).mu i) [.v (.int .i64 n), .rd .event l', .loc 0 0 0 1, .v (.int .i64 ((i + 1 : Nat) : Int)), .loc 1 0 0 1] [.cells (machC m') 30, .cells [.b false] 4] := fun m' l' e q1 q2 => by
    have h := nxR_lens (K.repS (K.bareG g) log i) (i : Int)
    have e1 : m' = (K.repS (K.bareG g) log (i + 1)).1 := by rw [e]
    have e2 : l' = (K.repS (K.bareG g) log (i + 1)).2 := by rw [e]
    subst e1 e2
    refine ⟨i + 1, rfl, rfl, ⟨by show i + 1 ≤ n.toNat; omega, replay_next i2 q1 q2, ?_, ?_⟩, by show n.toNat - (i + 1) < n.toNat - i; omega⟩
    · show (K.nxR (K.repS (K.bareG g) log i) (i : Int)).1.mem.length = _; omega
    · show (K.nxR (K.repS (K.bareG g) log i) (i : Int)).1.out.length ≤ _; omega
  have hsE : K.isEv (K.repS (K.bareG g) log i) (i : Int) = true → K.repS (K.bareG g) log (i + 1) = (K.evRes (K.repS (K.bareG g) log i).1 ((K.repS (K.bareG g) log i).2.getD 0 ⟨0, 0, 0⟩), (K.repS (K.bareG g) log i).2.drop 1) := fun q => by
    show K.nxR _ _ = _
    unfold K.nxR; rw [if_pos q]
  have hsP : K.isEv (K.repS (K.bareG g) log i) (i : Int) = false → K.repS (K.bareG g) log (i + 1) = ((K.plain (K.repS (K.bareG g) log i).1).1, (K.repS (K.bareG g) log i).2) := fun q => by
    show K.nxR _ _ = _
    unfold K.nxR; rw [if_neg (by rw [q]; simp)]
  have hgE : (K.repS (K.bareG g) log i).1.halted = false → K.isEv (K.repS (K.bareG g) log i) (i : Int) = true → K.goodR (K.repS (K.bareG g) log i) (i : Int) = K.evOk (K.repS (K.bareG g) log i).1 ((K.repS (K.bareG g) log i).2.getD 0 ⟨0, 0, 0⟩) := fun q1 q2 => by
    unfold K.goodR; rw [if_pos q2, q1]; rfl
  have hgP : (K.repS (K.bareG g) log i).1.halted = false → K.isEv (K.repS (K.bareG g) log i) (i : Int) = false → K.goodR (K.repS (K.bareG g) log i) (i : Int) = K.plOk (K.repS (K.bareG g) log i).1 := fun q1 q2 => by
    unfold K.goodR; rw [if_neg (by rw [q2]; simp), q1]; rfl
  have hgH : (K.repS (K.bareG g) log i).1.halted = true → K.goodR (K.repS (K.bareG g) log i) (i : Int) = false := fun q1 => by
    unfold K.goodR; rw [q1]; rfl
  have hev : ((K.repS (K.bareG g) log i).2.length : Int) > 0 → ((K.repS (K.bareG g) log i).2.getD 0 ⟨0, 0, 0⟩).at_ = (i : Int) → K.isEv (K.repS (K.bareG g) log i) (i : Int) = true := fun a b => by
    unfold K.isEv; simp only [Bool.and_eq_true, decide_eq_true_eq, beq_iff_eq]; exact ⟨a, b⟩
  have hne1 : ¬ ((K.repS (K.bareG g) log i).2.length : Int) > 0 → K.isEv (K.repS (K.bareG g) log i) (i : Int) = false := fun a => by
    unfold K.isEv; rw [decide_eq_false a, Bool.false_and]
  have hne2 : ¬ ((K.repS (K.bareG g) log i).2.getD 0 ⟨0, 0, 0⟩).at_ = (i : Int) → K.isEv (K.repS (K.bareG g) log i) (i : Int) = false := fun a => by
    unfold K.isEv; rw [beq_eq_false_iff_ne.2 a, Bool.and_false]
  simp only [hpre, cond_true, Tree.holds_loop, Tree.holds_fork, Tree.holds_next, if_true, Tree.holds_cond, Tree.holds_letv, Tree.holds_leaf, Tree.holds_fail, decO, decA, decTup, decMach, decCore, decTrap, decInstr, decPart, decGuest, decConf, decEvent, decVcpu, decStep, bytesS, boolS, eventsS, intsS, guestsS, vcpusS, rowS, castL, Option.bind_some, Option.map_some, Option.some.injEq, Nat.beq_refl, beq_self_eq_true, Bool.and_self, cond_true, cond_false, eq_self, beq_iff_eq, beq_eq_false_iff_ne, bne_iff_ne, bne_eq_false_iff_eq, ne_eq, decide_eq_true_eq, decide_eq_false_iff_not, ble_true, ble_false, inRange_iff, inRange_false, Int.ofNat_eq_natCast, Int.toNat_natCast, w1, List.take_length]
  repeat' (first | refine drop_ok ?_ | intro _ | with_reducible apply And.intro)
  all_goals first
    | omega
    | exact (hbad (by assumption) (hgH (by assumption))).symm
    | exact (hbad (by assumption) ((hgE (by assumption) (hev (by assumption) (by assumption))).trans (by assumption))).symm
    | exact (hbad (by assumption) ((hgP (by assumption) (hne1 (by assumption))).trans (by assumption))).symm
    | exact (hbad (by assumption) ((hgP (by assumption) (hne2 (by assumption))).trans (by assumption))).symm
    | exact hnext _ _ (hsE (hev (by assumption) (by assumption))) (by assumption) ((hgE (by assumption) (hev (by assumption) (by assumption))).trans (by assumption))
    | exact hnext _ _ (hsP (hne1 (by assumption))) (by assumption) ((hgP (by assumption) (hne1 (by assumption))).trans (by assumption))
    | exact hnext _ _ (hsP (hne2 (by assumption))) (by assumption) ((hgP (by assumption) (hne2 (by assumption))).trans (by assumption))
    | (rw [hend (by assumption)]; simp_all; done)
    | (simp_all; done)
    | (exfalso; rename_i q; simp at q; omega)
    | trace_state
  
theorem c_replay_Replay : SpecOk EB_0_1_2 21 S_replay_Replay := spec_sigD ok_replay_Replay po_replay_Replay (n := 60) (fun (g, n, log, _) => ⟨fun b => if b = 0 then some (fun _ => L_Replay g n log) else none, fun _ => false, [8]⟩) fun ⟨g, n, log, ⟨⟩⟩ h hok => a_replay_Replay g n log (of_decide_eq_true h) (ok_guest (okSL_head hok)) (ok_int (okSL_head (okSL_tail hok))) (ok_events (okSL_head (okSL_tail (okSL_tail hok))))
end

/-! replay_Ordered -/
@[reducible] def L_Ordered (log : List PEvent) : LoopSpec where
  σ := Nat
  slots := [3, 7, 8, 9]
  keys := [3]
  vals := fun j => [.loc 0 0 0 1, .rd .event log, .v (.int .i64 (log.length : Int)), .v (.int .i64 (j : Int))]
  blks := fun j => [.cells (eventC (K.lastE log j)) 51]
  inv := fun j => j ≤ log.length ∧ K.ordFrom (K.lastE log j) (log.drop j) = K.ordL log
  mu := fun j => log.length - j
def S_replay_Ordered : Spec := sig [.rd .event] [.b] (fun (log, _) => K.ordL log)
noncomputable def E_replay_Ordered : Env := EB.adds []

theorem ok_replay_Ordered : EnvOk E_replay_Ordered := okEB.adds (l := _) trivial
theorem t_replay_Ordered (log : List PEvent) : evFL E_replay_Ordered (fun _ => some (L_Ordered log)) 60 18 (encArgs [.rd .event] (log, ())) = Tree.loop 0 (L_Ordered log) [(SV.loc 0 0 0 1), (SV.rd ETy.event log), (SV.v (Value.int IntKind.i64 (Int.ofNat (List.length log)))), (SV.v (Value.int IntKind.i64 (0 : Int)))] [(Blk.cells [(SV.v (Value.int IntKind.i64 (0 : Int))), (SV.v (Value.int IntKind.i64 (-1 : Int))), (SV.v (Value.int IntKind.u64 (0 : Int)))] 51)] fun (x0 : Nat) => (bif (decide ((Int.ofNat x0) < (Int.ofNat (List.length log)))) then (bif (inRange (Int.ofNat x0) (List.length log)) then (bif (decide ((List.getD log (Int.toNat (Int.ofNat x0)) (PEvent.mk (0 : Int) (0 : Int) (0 : Int))).at_ ≤ (K.lastE log x0).at_)) then (Tree.leaf (SV.b false)) else (bif (decide ((List.getD log (Int.toNat (Int.ofNat x0)) (PEvent.mk (0 : Int) (0 : Int) (0 : Int))).time < (K.lastE log x0).time)) then (Tree.leaf (SV.b false)) else ((Tree.next 0 [(SV.loc 0 0 0 1), (SV.rd ETy.event log), (SV.v (Value.int IntKind.i64 (Int.ofNat (List.length log)))), (SV.v (Value.int IntKind.i64 (IntKind.wrap IntKind.i64 ((Int.ofNat x0) + (1 : Int)))))] [(Blk.cells [(SV.v (Value.int IntKind.i64 (List.getD log (Int.toNat (Int.ofNat x0)) (PEvent.mk (0 : Int) (0 : Int) (0 : Int))).kind)), (SV.v (Value.int IntKind.i64 (List.getD log (Int.toNat (Int.ofNat x0)) (PEvent.mk (0 : Int) (0 : Int) (0 : Int))).at_)), (SV.v (Value.int IntKind.u64 (List.getD log (Int.toNat (Int.ofNat x0)) (PEvent.mk (0 : Int) (0 : Int) (0 :
 Int))).time))] 51)])))) else (Tree.fail)) else (Tree.leaf (SV.b true))) := by kernel_rfl
section
attribute [local irreducible] evF evFL evFLs evFP
theorem a_replay_Ordered (log : List PEvent) (ok_log : okEvents log) : (evFL E_replay_Ordered (fun _ => some (L_Ordered log)) 60 18 (encArgs [.rd .event] (log, ()))).ends fun out_ => decO [.b] out_ = some (K.ordL log) := by
  rw [t_replay_Ordered, Tree.ends_holds]
  have hlim : log.length ≤ 140737488355328 := ok_log.1
  simp only [Tree.holds_loop, Tree.holds_fork, Tree.holds_next, if_true, Tree.holds_cond, Tree.holds_letv, Tree.holds_leaf, Tree.holds_fail, decO, decA, decTup, decMach, decCore, decTrap, decInstr, decPart, decGuest, decConf, decEvent, decVcpu, decStep, bytesS, boolS, eventsS, intsS, guestsS, vcpusS, rowS, castL, Option.bind_some, Option.map_some, Option.some.injEq, Nat.beq_refl, beq_self_eq_true, Bool.and_self, cond_true, cond_false, eq_self, beq_iff_eq, beq_eq_false_iff_ne, bne_iff_ne, bne_eq_false_iff_eq, ne_eq, decide_eq_true_eq, decide_eq_false_iff_not, ble_true, ble_false, inRange_iff, inRange_false, Int.ofNat_eq_natCast, Int.toNat_natCast]
  refine ⟨⟨(0 : Nat), rfl, rfl, ⟨Nat.zero_le _, rfl⟩, trivial⟩, fun (j : Nat) hx => ?_⟩
  obtain ⟨i1, i2⟩ := hx
  have i1 : j ≤ log.length := i1
  have i2 : K.ordFrom (K.lastE log j) (log.drop j) = K.ordL log := i2
  by_cases hlt : j < log.length
  · have w1 : IntKind.i64.wrap ((j : Int) + 1) = ((j + 1 : Nat) : Int) := by rw [wrapI64 (by omega) (by omega)]; rfl
    have hd := ordFrom_drop (K.lastE log j) hlt
    rw [i2] at hd
    simp only [w1]
    repeat' (first | refine drop_ok ?_ | intro _ | with_reducible apply And.intro)
    all_goals first
      | omega
      | (rw [hd, decide_eq_true (p := (log.getD j ⟨0, 0, 0⟩).at_ ≤ _) (by assumption)]; rfl)
      | (rw [hd, decide_eq_true (p := (log.getD j ⟨0, 0, 0⟩).time < _) (by assumption), Bool.or_true]; rfl)
      | exact ⟨j + 1, rfl, rfl, ⟨by show j + 1 ≤ _; omega, by rw [hd, decide_eq_false (p := (log.getD j ⟨0, 0, 0⟩).at_ ≤ _) (by assumption), decide_eq_false (p := (log.getD j ⟨0, 0, 0⟩).time < _) (by assumption)]; rfl⟩, by show log.length - (j + 1) < log.length - j; omega⟩
      | trace_state
  · rw [ordFrom_end _ (by omega)] at i2
    repeat' (first | refine drop_ok ?_ | intro _ | with_reducible apply And.intro)
    all_goals first
      | (exfalso; omega)
      | exact i2
      | trace_state
  
theorem c_replay_Ordered : SpecOk EB 18 S_replay_Ordered := spec_sigL ok_replay_Ordered (n := 60) (fun (log, _) => fun _ => some (L_Ordered log)) fun ⟨log, ⟨⟩⟩ h hok => a_replay_Ordered log (ok_events (okSL_head hok))
end

/-! law26_awake -/

def S_law26_awake : Spec := sig [] [.b] (fun _ => true)
noncomputable def E_law26_awake : Env := EB_0_1_2.adds [(29, S_ref02_Encode), (21, S_replay_Replay), (18, S_replay_Ordered)]

theorem ok_law26_awake : EnvOk E_law26_awake := okEB_0_1_2.adds (l := _) ⟨(up_to_0_1_2 c_ref02_Encode), c_replay_Replay, (up_to_0_1_2 c_replay_Ordered), trivial⟩
theorem t_c_law26_awake : (evF E_law26_awake 60 17 []).inst = .leaf (.b true) := by kernel_rfl
section
attribute [local irreducible] evF
theorem c_law26_awake : SpecOk EB_0_1_2 17 S_law26_awake := spec_sig ok_law26_awake (n := 60) fun _ _ _ => Tree.of_inst (Q := .of _) (by
  show ((evF E_law26_awake 60 17 []).inst).holds _
  rw [t_c_law26_awake]; rfl)
end

/-! ref15_Few -/
@[reducible] def L_FewC (c : PConf) : LoopSpec where
  σ := Nat
  slots := [1, 3]
  keys := [1]
  vals := fun j => [.loc 0 0 0 1, .v (.int .i64 (j : Int))]
  blks := fun _ => [.cells (confC c) 75]
  inv := fun j => j ≤ c.guests.length ∧ ((c.guests.take j).all fun g => decide (g.mem.length ≤ 600)) = true
  mu := fun j => c.guests.length - j
def S_ref15_Few : Spec := sig [.conf] [.b] (fun (c, _) => K.fewC c)
noncomputable def E_ref15_Few : Env := EB.adds []

theorem ok_ref15_Few : EnvOk E_ref15_Few := okEB.adds (l := _) trivial
theorem t_ref15_Few (c : PConf) : evFL E_ref15_Few (fun _ => some (L_FewC c)) 60 31 (encArgs [.conf] (c, ())) = bif (decide (c.size > (600 : Int))) then (Tree.leaf (SV.b false)) else (bif (decide ((Int.ofNat (List.length c.guests)) > (20 : Int))) then (Tree.leaf (SV.b false)) else (Tree.loop 0 (L_FewC c) [(SV.loc 0 0 0 1), (SV.v (Value.int IntKind.i64 (0 : Int)))] [(Blk.cells [(SV.v (Value.int IntKind.u32 c.size)), (SV.rd ETy.guest c.guests)] 75)] fun (x0 : Nat) => (bif (decide ((Int.ofNat x0) < (Int.ofNat (List.length c.guests)))) then (bif (inRange (Int.ofNat x0) (List.length c.guests)) then (bif (decide ((Int.ofNat (List.length (List.getD c.guests (Int.toNat (Int.ofNat x0)) (PGuest.mk (PPart.mk (0 : Int) (0 : Int)) [] [] (0 : Int))).mem)) > (600 : Int))) then (Tree.leaf (SV.b false)) else ((Tree.next 0 [(SV.loc 0 0 0 1), (SV.v (Value.int IntKind.i64 (IntKind.wrap IntKind.i64 ((Int.ofNat x0) + (1 : Int)))))] [(Blk.cells [(SV.v (Value.int IntKind.u32 c.size)), (SV.rd ETy.guest c.guests)] 75)]))) else (Tree.fail)) else (Tree.leaf (SV.b true))))) := by kernel_rfl
section
attribute [local irreducible] evF evFL evFLs evFP
theorem a_ref15_Few (c : PConf) (ok_c : okConf c) : (evFL E_ref15_Few (fun _ => some (L_FewC c)) 60 31 (encArgs [.conf] (c, ()))).ends fun out_ => decO [.b] out_ = some (K.fewC c) := by
  rw [t_ref15_Few, Tree.ends_holds]
  have hlim : c.guests.length ≤ 140737488355328 := ok_c.len
  simp only [Tree.holds_loop, Tree.holds_fork, Tree.holds_next, if_true, Tree.holds_cond, Tree.holds_letv, Tree.holds_leaf, Tree.holds_fail, decO, decA, decTup, decMach, decCore, decTrap, decInstr, decPart, decGuest, decConf, decEvent, decVcpu, decStep, bytesS, boolS, eventsS, intsS, guestsS, vcpusS, rowS, castL, Option.bind_some, Option.map_some, Option.some.injEq, Nat.beq_refl, beq_self_eq_true, Bool.and_self, cond_true, cond_false, eq_self, beq_iff_eq, beq_eq_false_iff_ne, bne_iff_ne, bne_eq_false_iff_eq, ne_eq, decide_eq_true_eq, decide_eq_false_iff_not, ble_true, ble_false, inRange_iff, inRange_false, Int.ofNat_eq_natCast]
  refine ⟨fun h => ?_, fun h1 => ⟨fun h => ?_, fun h2 => ?_⟩⟩
  · show false = K.fewC c
    unfold K.fewC; rw [decide_eq_false (by omega)]; rfl
  · show false = K.fewC c
    unfold K.fewC; rw [decide_eq_false (p := c.guests.length ≤ 20) (by omega)]; simp
  have hb : decide (c.size ≤ 600) = true := decide_eq_true (by omega)
  have hc : decide (c.guests.length ≤ 20) = true := decide_eq_true (by omega)
  have hall : K.fewC c = c.guests.all fun g => decide (g.mem.length ≤ 600) := by unfold K.fewC; rw [hb, hc]; rfl
  rw [hall]
  refine ⟨⟨(0 : Nat), rfl, rfl, ⟨Nat.zero_le _, rfl⟩, trivial⟩, fun (j : Nat) hx => ?_⟩
  obtain ⟨i1, i2⟩ := hx
  have i1 : j ≤ c.guests.length := i1
  have i2 : ((c.guests.take j).all fun g => decide (g.mem.length ≤ 600)) = true := i2
  simp only [Int.toNat_natCast]
  by_cases hlt : j < c.guests.length
  · have w1 : IntKind.i64.wrap ((j : Int) + 1) = ((j + 1 : Nat) : Int) := by rw [wrapI64 (by omega) (by omega)]; rfl
    have hs := all_take (p := fun g : PGuest => decide (g.mem.length ≤ 600)) hlt ⟨⟨0, 0⟩, [], [], 0⟩
    have hbad := all_bad (p := fun g : PGuest => decide (g.mem.length ≤ 600)) hlt (d := ⟨⟨0, 0⟩, [], [], 0⟩)
    simp only [w1]
    repeat' (first | refine drop_ok ?_ | intro _ | with_reducible apply And.intro)
    all_goals first
      | omega
      | (rename_i q; exact (hbad (decide_eq_false (by omega))).symm)
      | (rename_i q; exact ⟨j + 1, rfl, rfl, ⟨by show j + 1 ≤ _; omega, hs.trans (by rw [i2]; simp only [Bool.true_and, decide_eq_true_eq]; omega)⟩, by show c.guests.length - (j + 1) < c.guests.length - j; omega⟩)
      | trace_state
  · have hj : j = c.guests.length := by omega
    subst hj
    rw [List.take_length] at i2
    repeat' (first | refine drop_ok ?_ | intro _ | with_reducible apply And.intro)
    all_goals first
      | (exfalso; omega)
      | exact i2.symm
      | trace_state
  
theorem c_ref15_Few : SpecOk EB 31 S_ref15_Few := spec_sigL ok_ref15_Few (n := 60) (fun (c, _) => fun _ => some (L_FewC c)) fun ⟨c, ⟨⟩⟩ h hok => a_ref15_Few c (ok_conf (okSL_head hok))
end

/-! ref15_Whose -/
@[reducible] def L_Whose (c : PConf) (a f : Int) : LoopSpec where
  σ := Nat
  slots := [1, 3, 7]
  keys := [3]
  vals := fun j => [.v (.int .i64 a), .loc 0 0 0 1, .v (.int .i64 (f + j))]
  blks := fun _ => [.cells (confC c) 75]
  inv := fun j => j ≤ c.guests.length ∧ K.whoseL a (c.guests.drop (f.toNat + j)) (f + j) = K.whose c a f
  mu := fun j => c.guests.length - j
def S_ref15_Whose : Spec := sig [.conf, .i .i64, .i .i64] [.i .i64] (fun (c, a, f, _) => K.whose c a f) (pre := fun (c, a, f, _) => decide (0 ≤ f ∧ f ≤ 140737488355328))
noncomputable def E_ref15_Whose : Env := EB.adds []

theorem ok_ref15_Whose : EnvOk E_ref15_Whose := okEB.adds (l := _) trivial
theorem t_ref15_Whose (c : PConf) (a : Int) (f : Int) : evFL E_ref15_Whose (fun _ => some (L_Whose c a f)) 60 59 (encArgs [.conf, .i .i64, .i .i64] (c, a, f, ())) = Tree.loop 0 (L_Whose c a f) [(SV.v (Value.int IntKind.i64 a)), (SV.loc 0 0 0 1), (SV.v (Value.int IntKind.i64 f))] [(Blk.cells [(SV.v (Value.int IntKind.u32 c.size)), (SV.rd ETy.guest c.guests)] 75)] fun (x0 : Nat) => (bif (decide ((f + (Int.ofNat x0)) < (Int.ofNat (List.length c.guests)))) then (bif (inRange (f + (Int.ofNat x0)) (List.length c.guests)) then (bif (decide (a ≥ (IntKind.wrap IntKind.i64 (List.getD c.guests (Int.toNat (f + (Int.ofNat x0))) (PGuest.mk (PPart.mk (0 : Int) (0 : Int)) [] [] (0 : Int))).part.base))) then (bif (decide (a < (IntKind.wrap IntKind.i64 ((IntKind.wrap IntKind.i64 (List.getD c.guests (Int.toNat (f + (Int.ofNat x0))) (PGuest.mk (PPart.mk (0 : Int) (0 : Int)) [] [] (0 : Int))).part.base) + (IntKind.wrap IntKind.i64 (List.getD c.guests (Int.toNat (f + (Int.ofNat x0))) (PGuest.mk (PPart.mk (0 : Int) (0 : Int)) [] [] (0 : Int))).part.size))))) then (Tree.leaf (SV.v (Value.int IntKind.i64 (f + (Int.ofNat x0))))) else ((Tree.next 0 [(SV.v (Value.int IntKind.i64 a)), (SV.loc 0 0 0 1), (SV.v (Value.int IntKind.i64 (IntKind.wrap IntKind.i64 ((f + (Int.ofNat x0)) + (1 : Int)))))] [(Blk.cells [(SV.v (Value.int IntKind.u32 c.size)), (SV.rd ETy.guest c.guests)] 75)]))) else ((Tree.next 0 [(SV.v (Value.int IntKind.i64 a)), (SV.loc 0 0 0 1), (SV.v (Value.int IntKind.i64 (IntKind.wrap IntKind.i64
 ((f + (Int.ofNat x0)) + (1 : Int)))))] [(Blk.cells [(SV.v (Value.int IntKind.u32 c.size)), (SV.rd ETy.guest c.guests)] 75)]))) else (Tree.fail)) else (Tree.leaf (SV.v (Value.int IntKind.i64 (-1 : Int))))) := by kernel_rfl
section
attribute [local irreducible] evF evFL evFLs evFP
theorem a_ref15_Whose (c : PConf) (a : Int) (f : Int) (hpre : 0 ≤ f ∧ f ≤ 140737488355328) (ok_c : okConf c) (ok_a : okI .i64 a) (ok_f : okI .i64 f) : (evFL E_ref15_Whose (fun _ => some (L_Whose c a f)) 60 59 (encArgs [.conf, .i .i64, .i .i64] (c, a, f, ()))).ends fun out_ => decO [.i .i64] out_ = some (K.whose c a f) := by
  rw [t_ref15_Whose, Tree.ends_holds]
  obtain ⟨f0, f1⟩ := hpre
  have hlim : c.guests.length ≤ 140737488355328 := ok_c.len
  simp only [Tree.holds_loop, Tree.holds_fork, Tree.holds_next, if_true, Tree.holds_cond, Tree.holds_letv, Tree.holds_leaf, Tree.holds_fail, decO, decA, decTup, decMach, decCore, decTrap, decInstr, decPart, decGuest, decConf, decEvent, decVcpu, decStep, bytesS, boolS, eventsS, intsS, guestsS, vcpusS, rowS, castL, Option.bind_some, Option.map_some, Option.some.injEq, Nat.beq_refl, beq_self_eq_true, Bool.and_self, cond_true, cond_false, eq_self, beq_iff_eq, beq_eq_false_iff_ne, bne_iff_ne, bne_eq_false_iff_eq, ne_eq, decide_eq_true_eq, decide_eq_false_iff_not, ble_true, ble_false, inRange_iff, inRange_false, Int.ofNat_eq_natCast]
  refine ⟨⟨(0 : Nat), by show _ = [SV.v (.int .i64 a), .loc 0 0 0 1, .v (.int .i64 (f + (0 : Nat)))]; simp, rfl, ⟨Nat.zero_le _, by simp [K.whose]⟩, trivial⟩, fun (j : Nat) hx => ?_⟩
  obtain ⟨i1, i2⟩ := hx
  have i1 : j ≤ c.guests.length := i1
  have i2 : K.whoseL a (c.guests.drop (f.toNat + j)) (f + j) = K.whose c a f := i2
  have hn : (f + (j : Int)).toNat = f.toNat + j := by omega
  have w1 : f + (j : Int) < (c.guests.length : Int) → IntKind.i64.wrap (f + (j : Int) + 1) = f + ((j + 1 : Nat) : Int) := fun h => by rw [wrapI64 (by omega) (by omega)]; omega
  have hd : f + (j : Int) < (c.guests.length : Int) → K.whose c a f = if K.inP (c.guests.getD (f.toNat + j) ⟨⟨0, 0⟩, [], [], 0⟩).part a = true then f + (j : Int) else K.whoseL a (c.guests.drop (f.toNat + j + 1)) (f + (j : Int) + 1) := fun h => by
    rw [← i2, whoseL_drop c a _ (show f.toNat + j < c.guests.length by omega)]
  have hnx : f + (j : Int) < (c.guests.length : Int) → K.inP (c.guests.getD (f.toNat + j) ⟨⟨0, 0⟩, [], [], 0⟩).part a = false → (L_Whose c a f).at (fun y => c.guests.length - y < c.guests.length - j) [.v (.int .i64 a), .loc 0 0 0 1, .v (.int .i64 (IntKind.i64.wrap (f + (j : Int) + 1)))] [.cells (confC c) 75] := fun h hp => by
    refine ⟨j + 1, by rw [w1 h], rfl, ⟨by show j + 1 ≤ _; omega, ?_⟩, by show c.guests.length - (j + 1) < _; omega⟩
    show K.whoseL a (c.guests.drop (f.toNat + (j + 1))) (f + ((j + 1 : Nat) : Int)) = _
    have := hd h
    rw [hp] at this
    rw [this]
    simp only [Bool.false_eq_true, if_false]
    congr 1
    omega
  have okp : f + (j : Int) < (c.guests.length : Int) → okPart (c.guests.getD (f.toNat + j) ⟨⟨0, 0⟩, [], [], 0⟩).part := fun h => (ok_c.at (show f.toNat + j < c.guests.length by omega)).part
  simp only [hn]
  generalize hg : c.guests.getD (f.toNat + j) ⟨⟨0, 0⟩, [], [], 0⟩ = g at hd hnx okp ⊢
  by_cases hlt : f + (j : Int) < (c.guests.length : Int)
  · have hd := hd hlt
    have hnx := hnx hlt
    obtain ⟨⟨b0, b1⟩, ⟨s0, s1⟩⟩ := okp hlt
    have b0 : 0 ≤ g.part.base := b0
    have s0 : 0 ≤ g.part.size := s0
    have b1 : g.part.base ≤ 4294967295 := b1
    have s1 : g.part.size ≤ 4294967295 := s1
    have e1 : IntKind.i64.wrap g.part.base = g.part.base := wrapI64 (by omega) (by omega)
    have e2 : IntKind.i64.wrap g.part.size = g.part.size := wrapI64 (by omega) (by omega)
    have e3 : IntKind.i64.wrap (g.part.base + g.part.size) = g.part.base + g.part.size := wrapI64 (by omega) (by omega)
    have hin : K.inP g.part a = true ↔ a ≥ g.part.base ∧ a < g.part.base + g.part.size := by simp [K.inP]
    have hf : ¬ (a ≥ g.part.base ∧ a < g.part.base + g.part.size) → K.inP g.part a = false := fun h => by
      cases hq : K.inP g.part a with
      | false => rfl
      | true => exact absurd (hin.1 hq) h
    simp only [e1, e2, e3]
    repeat' (first | refine drop_ok ?_ | intro _ | with_reducible apply And.intro)
    all_goals first
      | omega
      | (rw [hd, if_pos (hin.2 ⟨by assumption, by assumption⟩)]; done)
      | exact hnx (hf (by omega))
      | (rename_i q; exact absurd hlt q)
      | trace_state
  · have he : K.whose c a f = -1 := by rw [← i2, whoseL_end]; omega
    repeat' (first | refine drop_ok ?_ | intro _ | with_reducible apply And.intro)
    all_goals first
      | (exfalso; omega)
      | exact he.symm
      | trace_state
  
theorem c_ref15_Whose : SpecOk EB 59 S_ref15_Whose := spec_sigL ok_ref15_Whose (n := 60) (fun (c, a, f, _) => fun _ => some (L_Whose c a f)) fun ⟨c, a, f, ⟨⟩⟩ h hok => a_ref15_Whose c a f (of_decide_eq_true h) (ok_conf (okSL_head hok)) (ok_int (okSL_head (okSL_tail hok))) (ok_int (okSL_head (okSL_tail (okSL_tail hok))))
end

/-! ref15_May -/
@[reducible] def L_May0 (c : PConf) : LoopSpec where
  σ := Nat
  slots := [1, 3]
  keys := [1]
  vals := fun j => [.loc 0 0 0 1, .v (.int .i64 (j : Int))]
  blks := fun _ => [.cells (confC c) 75]
  inv := fun j => j ≤ c.guests.length ∧ ((c.guests.take j).all (K.partOk c.size)) = true
  mu := fun j => c.guests.length - j
@[reducible] def L_May2 (c : PConf) : LoopSpec where
  σ := Nat
  slots := [1, 5]
  keys := [1]
  vals := fun j => [.loc 0 0 0 1, .v (.int .i64 (4 * (j : Int)))]
  blks := fun _ => [.cells (confC c) 75]
  inv := fun j => j ≤ c.size.toNat / 4 ∧ K.overFrom c (c.size.toNat / 4 - j) (4 * (j : Int)) = K.overFrom c (c.size.toNat / 4) 0
  mu := fun j => c.size.toNat / 4 - j
def S_ref15_May : Spec := sig [.conf] [.i .i64] (fun (c, _) => K.mayC c)
noncomputable def E_ref15_May : Env := EB.adds [(59, S_ref15_Whose)]

theorem ok_ref15_May : EnvOk E_ref15_May := okEB.adds (l := _) ⟨c_ref15_Whose, trivial⟩
theorem t_ref15_May (c : PConf) : evFL E_ref15_May (fun b => if b = 0 then some (L_May0 c) else some (L_May2 c)) 60 32 (encArgs [.conf] (c, ())) = bif (decide ((Int.ofNat (List.length c.guests)) < (1 : Int))) then (Tree.leaf (SV.v (Value.int IntKind.i64 (7 : Int)))) else (bif (decide ((Int.ofNat (List.length c.guests)) > (16 : Int))) then (Tree.leaf (SV.v (Value.int IntKind.i64 (7 : Int)))) else (bif (bne (Int.tmod c.size (4 : Int)) (0 : Int)) then (Tree.leaf (SV.v (Value.int IntKind.i64 (1 : Int)))) else (bif (decide (c.size > (65536 : Int))) then (Tree.leaf (SV.v (Value.int IntKind.i64 (1 : Int)))) else (Tree.loop 0 (L_May0 c) [(SV.loc 0 0 0 1), (SV.v (Value.int IntKind.i64 (0 : Int)))] [(Blk.cells [(SV.v (Value.int IntKind.u32 c.size)), (SV.rd ETy.guest c.guests)] 75)] fun (x0 : Nat) => (bif (decide ((Int.ofNat x0) < (Int.ofNat (List.length c.guests)))) then (bif (inRange (Int.ofNat x0) (List.length c.guests)) then (bif (bne (Int.tmod (List.getD c.guests (Int.toNat (Int.ofNat x0)) (PGuest.mk (PPart.mk (0 : Int) (0 : Int)) [] [] (0 : Int))).part.base (4 : Int)) (0 : Int)) then (Tree.leaf (SV.v (Value.int IntKind.i64 (5 : Int)))) else (bif (bne (Int.tmod (List.getD c.guests (Int.toNat (Int.ofNat x0)) (PGuest.mk (PPart.mk (0 : Int) (0 : Int)) [] [] (0 : Int))).part.size (4 : Int)) (0 : Int)) then (Tree.leaf (SV.v (Value.int IntKind.i64 (5 : Int)))) else (bif (BEq.beq (List.getD c.guests (Int.toNat (Int.ofNat x0)) (PGuest.mk (PPart.mk (0 : Int) (0 : Int)) [] [] (0 :
 Int))).part.size (0 : Int)) then (Tree.leaf (SV.v (Value.int IntKind.i64 (5 : Int)))) else (bif (decide ((IntKind.wrap IntKind.i64 ((IntKind.wrap IntKind.i64 (List.getD c.guests (Int.toNat (Int.ofNat x0)) (PGuest.mk (PPart.mk (0 : Int) (0 : Int)) [] [] (0 : Int))).part.base) + (IntKind.wrap IntKind.i64 (List.getD c.guests (Int.toNat (Int.ofNat x0)) (PGuest.mk (PPart.mk (0 : Int) (0 : Int)) [] [] (0 : Int))).part.size))) > (IntKind.wrap IntKind.i64 c.size))) then (Tree.leaf (SV.v (Value.int IntKind.i64 (5 : Int)))) else (bif (inRange (Int.ofNat x0) (List.length c.guests)) then (bif (decide ((Int.ofNat (List.length (List.getD c.guests (Int.toNat (Int.ofNat x0)) (PGuest.mk (PPart.mk (0 : Int) (0 : Int)) [] [] (0 : Int))).mem)) > (IntKind.wrap IntKind.i64 (List.getD c.guests (Int.toNat (Int.ofNat x0)) (PGuest.mk (PPart.mk (0 : Int) (0 : Int)) [] [] (0 : Int))).part.size))) then (Tree.leaf (SV.v (Value.int IntKind.i64 (5 : Int)))) else ((Tree.next 0 [(SV.loc 0 0 0 1), (SV.v (Value.int IntKind.i64 (IntKind.wrap IntKind.i64 ((Int.ofNat x0) + (1 : Int)))))] [(Blk.cells [(SV.v (Value.int IntKind.u32 c.size)), (SV.rd ETy.guest c.guests)] 75)]))) else (Tree.fail)))))) else (Tree.fail)) else (Tree.loop 2 (L_May2 c) [(SV.loc 0 0 0 1), (SV.v (Value.int IntKind.i64 (0 : Int)))] [(Blk.cells [(SV.v (Value.int IntKind.u32 c.size)), (SV.rd ETy.guest c.guests)] 75)] fun (x1 : Nat) => (bif (decide (((4 : Int) * (Int.ofNat x1)) < (IntKind.wrap IntKind.i64 c.size))) then (Tree.letv (okO [(AT.i
 IntKind.i64)]) (K.whose c ((4 : Int) * (Int.ofNat x1)) (0 : Int)) fun x2 => (bif (decide (x2 ≥ (0 : Int))) then (bif (decide (And ((0 : Int) ≤ (IntKind.wrap IntKind.i64 (x2 + (1 : Int)))) ((IntKind.wrap IntKind.i64 (x2 + (1 : Int))) ≤ (140737488355328 : Int)))) then (Tree.letv (okO [(AT.i IntKind.i64)]) (K.whose c ((4 : Int) * (Int.ofNat x1)) (IntKind.wrap IntKind.i64 (x2 + (1 : Int)))) fun x3 => (bif (decide (x3 ≥ (0 : Int))) then (Tree.leaf (SV.v (Value.int IntKind.i64 (6 : Int)))) else ((Tree.next 2 [(SV.loc 0 0 0 1), (SV.v (Value.int IntKind.i64 (IntKind.wrap IntKind.i64 (((4 : Int) * (Int.ofNat x1)) + (4 : Int)))))] [(Blk.cells [(SV.v (Value.int IntKind.u32 c.size)), (SV.rd ETy.guest c.guests)] 75)])))) else (Tree.fail)) else ((Tree.next 2 [(SV.loc 0 0 0 1), (SV.v (Value.int IntKind.i64 (IntKind.wrap IntKind.i64 (((4 : Int) * (Int.ofNat x1)) + (4 : Int)))))] [(Blk.cells [(SV.v (Value.int IntKind.u32 c.size)), (SV.rd ETy.guest c.guests)] 75)])))) else (Tree.leaf (SV.v (Value.int IntKind.i64 (0 : Int))))))))))) := by kernel_rfl
section
attribute [local irreducible] evF evFL evFLs evFP
theorem a_ref15_May (c : PConf) (ok_c : okConf c) : (evFL E_ref15_May (fun b => if b = 0 then some (L_May0 c) else some (L_May2 c)) 60 32 (encArgs [.conf] (c, ()))).ends fun out_ => decO [.i .i64] out_ = some (K.mayC c) := by
  rw [t_ref15_May, Tree.ends_holds]
  have hlim : c.guests.length ≤ 140737488355328 := ok_c.len
  obtain ⟨z0, z1⟩ := okI_u32 ok_c.size
  have m4 : c.size.tmod 4 = c.size % 4 := Int.tmod_eq_emod_of_nonneg z0
  have wz : IntKind.i64.wrap c.size = c.size := wrapI64 (by omega) (by omega)
  have f7 : (c.guests.length < 1 ∨ c.guests.length > 16) → 7 = K.mayC c := fun h => by unfold K.mayC; rw [if_pos h]
  simp only [Tree.holds_loop, Tree.holds_fork, Tree.holds_next, if_true, Tree.holds_cond, Tree.holds_letv, Tree.holds_leaf, Tree.holds_fail, decO, decA, decTup, decMach, decCore, decTrap, decInstr, decPart, decGuest, decConf, decEvent, decVcpu, decStep, bytesS, boolS, eventsS, intsS, guestsS, vcpusS, rowS, castL, Option.bind_some, Option.map_some, Option.some.injEq, Nat.beq_refl, beq_self_eq_true, Bool.and_self, cond_true, cond_false, eq_self, beq_iff_eq, beq_eq_false_iff_ne, bne_iff_ne, bne_eq_false_iff_eq, ne_eq, decide_eq_true_eq, decide_eq_false_iff_not, ble_true, ble_false, inRange_iff, inRange_false, Int.ofNat_eq_natCast, m4]
  refine ⟨fun h => f7 (.inl (by omega)), fun h1 => ⟨fun h => f7 (.inr (by omega)), fun h2 => ?_⟩⟩
  have n7 : ¬ (c.guests.length < 1 ∨ c.guests.length > 16) := by omega
  have f1 : (c.size % 4 ≠ 0 ∨ c.size > 65536) → 1 = K.mayC c := fun h => by unfold K.mayC; rw [if_neg n7, if_pos h]
  refine ⟨fun h => f1 (.inl h), fun h3 => ⟨fun h => f1 (.inr h), fun h4 => ?_⟩⟩
  have h3 : c.size % 4 = 0 := by omega
  have n1 : ¬ (c.size % 4 ≠ 0 ∨ c.size > 65536) := by omega
  have f5 : c.guests.all (K.partOk c.size) = false → 5 = K.mayC c := fun h => by unfold K.mayC; rw [if_neg n7, if_neg n1, if_pos h]
  have f6 : c.guests.all (K.partOk c.size) = true → K.mayC c = if K.overFrom c (c.size.toNat / 4) 0 = true then 6 else 0 := fun h => by unfold K.mayC; rw [if_neg n7, if_neg n1, if_neg (by rw [h]; simp)]
  refine ⟨⟨(0 : Nat), rfl, rfl, ⟨Nat.zero_le _, rfl⟩, trivial⟩, fun (j : Nat) hx => ?_⟩
  obtain ⟨i1, i2⟩ := hx
  have i1 : j ≤ c.guests.length := i1
  have i2 : (c.guests.take j).all (K.partOk c.size) = true := i2
  simp only [Int.toNat_natCast, wz]
  by_cases hlt : j < c.guests.length
  · have w1 : IntKind.i64.wrap ((j : Int) + 1) = ((j + 1 : Nat) : Int) := by rw [wrapI64 (by omega) (by omega)]; rfl
    have okg := ok_c.at hlt
    have hs := all_take (p := K.partOk c.size) hlt ⟨⟨0, 0⟩, [], [], 0⟩
    have hbad := all_bad (p := K.partOk c.size) hlt (d := ⟨⟨0, 0⟩, [], [], 0⟩)
    rw [i2, Bool.true_and] at hs
    generalize c.guests.getD j ⟨⟨0, 0⟩, [], [], 0⟩ = g at okg hs hbad ⊢
    obtain ⟨b0, b1⟩ := okI_u32 okg.part.base
    obtain ⟨s0, s1⟩ := okI_u32 okg.part.size
    have e1 : IntKind.i64.wrap g.part.base = g.part.base := wrapI64 (by omega) (by omega)
    have e2 : IntKind.i64.wrap g.part.size = g.part.size := wrapI64 (by omega) (by omega)
    have e3 : IntKind.i64.wrap (g.part.base + g.part.size) = g.part.base + g.part.size := wrapI64 (by omega) (by omega)
    have t1 : g.part.base.tmod 4 = g.part.base % 4 := Int.tmod_eq_emod_of_nonneg b0
    have t2 : g.part.size.tmod 4 = g.part.size % 4 := Int.tmod_eq_emod_of_nonneg s0
    have hp : K.partOk c.size g = true ↔ g.part.base % 4 = 0 ∧ g.part.size % 4 = 0 ∧ g.part.size ≠ 0 ∧ g.part.base + g.part.size ≤ c.size ∧ (g.mem.length : Int) ≤ g.part.size := by
      unfold K.partOk; simp only [Bool.and_eq_true, decide_eq_true_eq]
    have hn : ¬ (g.part.base % 4 = 0 ∧ g.part.size % 4 = 0 ∧ g.part.size ≠ 0 ∧ g.part.base + g.part.size ≤ c.size ∧ (g.mem.length : Int) ≤ g.part.size) → 5 = K.mayC c := fun q => f5 (hbad (by
      cases hq : K.partOk c.size g with
      | false => rfl
      | true => exact absurd (hp.1 hq) q))
    simp only [w1, e1, e2, e3, t1, t2]
    repeat' (first | refine drop_ok ?_ | intro _ | with_reducible apply And.intro)
    all_goals first
      | omega
      | exact hn (by omega)
      | exact ⟨j + 1, rfl, rfl, ⟨by show j + 1 ≤ _; omega, hs.trans (hp.2 ⟨by omega, by omega, by omega, by omega, by omega⟩)⟩, by show c.guests.length - (j + 1) < c.guests.length - j; omega⟩
      | trace_state
  · have hj : j = c.guests.length := by omega
    subst hj
    rw [List.take_length] at i2
    have f6 := f6 i2
    refine ⟨fun q => absurd q (by omega), fun _ => ⟨⟨(0 : Nat), rfl, rfl, ⟨Nat.zero_le _, rfl⟩, trivial⟩, fun (k : Nat) hy => ?_⟩⟩
    obtain ⟨k1, k2⟩ := hy
    have k1 : k ≤ c.size.toNat / 4 := k1
    have k2 : K.overFrom c (c.size.toNat / 4 - k) (4 * (k : Int)) = K.overFrom c (c.size.toNat / 4) 0 := k2
    by_cases hlt : 4 * (k : Int) < c.size
    · have w1 : IntKind.i64.wrap (4 * (k : Int) + 4) = 4 * ((k + 1 : Nat) : Int) := by rw [wrapI64 (by omega) (by omega)]; omega
      rw [show c.size.toNat / 4 - k = (c.size.toNat / 4 - (k + 1)) + 1 by omega] at k2
      have k2 : (K.overAt c (4 * (k : Int)) || K.overFrom c (c.size.toNat / 4 - (k + 1)) (4 * (k : Int) + 4)) = K.overFrom c (c.size.toNat / 4) 0 := k2
      have hb := whose_bound c (4 * (k : Int)) (Int.le_refl 0)
      have w2 : IntKind.i64.wrap (K.whose c (4 * (k : Int)) 0 + 1) = K.whose c (4 * (k : Int)) 0 + 1 := wrapI64 (by omega) (by omega)
      have hnx : K.overAt c (4 * (k : Int)) = false → (L_May2 c).at (fun y => c.size.toNat / 4 - y < c.size.toNat / 4 - k) [.loc 0 0 0 1, .v (.int .i64 (4 * ((k + 1 : Nat) : Int)))] [.cells (confC c) 75] := fun q =>
        ⟨k + 1, rfl, rfl, ⟨by show k + 1 ≤ _; omega, by
          show K.overFrom c (c.size.toNat / 4 - (k + 1)) (4 * ((k + 1 : Nat) : Int)) = _
          rw [← k2, q, Bool.false_or]; congr 1⟩, by show c.size.toNat / 4 - (k + 1) < c.size.toNat / 4 - k; omega⟩
      have ho : K.overAt c (4 * (k : Int)) = true → 6 = K.mayC c := fun q => by rw [f6, ← k2, q, Bool.true_or]; rfl
      simp only [w1, w2]
      repeat' (first | refine drop_ok ?_ | intro _ | with_reducible apply And.intro)
      all_goals first
        | omega
        | (rename_i q; exact absurd hlt q)
        | exact ho (by unfold K.overAt; rw [decide_eq_true (by assumption), decide_eq_true (by assumption)]; rfl)
        | exact hnx (by unfold K.overAt; rw [decide_eq_false (by assumption)]; rfl)
        | exact hnx (by unfold K.overAt; rw [decide_eq_false (p := K.whose c (4 * (k : Int)) (K.whose c (4 * (k : Int)) 0 + 1) ≥ 0) (by assumption), Bool.and_false])
        | trace_state
    · have hk : c.size.toNat / 4 - k = 0 := by omega
      rw [hk] at k2
      have k2 : false = K.overFrom c (c.size.toNat / 4) 0 := k2
      rw [← k2] at f6
      repeat' (first | refine drop_ok ?_ | intro _ | with_reducible apply And.intro)
      all_goals first
        | (exfalso; omega)
        | exact f6.symm
        | trace_state
  
theorem c_ref15_May : SpecOk EB 32 S_ref15_May := spec_sigL ok_ref15_May (n := 60) (fun (c, _) => fun b => if b = 0 then some (L_May0 c) else some (L_May2 c)) fun ⟨c, ⟨⟩⟩ h hok => a_ref15_May c (ok_conf (okSL_head hok))
end

/-! ref26_Few -/

def S_ref26_Few : Spec := sig [.guest, .i .i64, .rd .event] [.b] (fun (g, n, log, _) => K.few26 g n log)
noncomputable def E_ref26_Few : Env := EB.adds [(31, S_ref15_Few), (32, S_ref15_May)]

theorem ok_ref26_Few : EnvOk E_ref26_Few := okEB.adds (l := _) ⟨c_ref15_Few, c_ref15_May, trivial⟩
theorem t_ref26_Few (g : PGuest) (n : Int) (log : List PEvent) : evF E_ref26_Few 60 20 (encArgs [.guest, .i .i64, .rd .event] (g, n, log, ())) = Tree.letv (okO [AT.b]) (K.fewC (PConf.mk (600 : Int) [g])) fun x0 => (bif x0 then (Tree.letv (okO [(AT.i IntKind.i64)]) (K.mayC (PConf.mk (600 : Int) [g])) fun x1 => (bif (BEq.beq x1 (0 : Int)) then (bif (decide (n ≥ (0 : Int))) then (bif (decide (n ≤ (100 : Int))) then (bif (decide ((Int.ofNat (List.length log)) ≤ (100 : Int))) then (Tree.leaf (SV.b true)) else (Tree.leaf (SV.b false))) else (Tree.leaf (SV.b false))) else (Tree.leaf (SV.b false))) else (Tree.leaf (SV.b false)))) else (Tree.leaf (SV.b false))) := by kernel_rfl
section
attribute [local irreducible] evF evFL evFLs evFP
theorem a_ref26_Few (g : PGuest) (n : Int) (log : List PEvent) (ok_g : okGuest g) (ok_n : okI .i64 n) (ok_log : okEvents log) : (evF E_ref26_Few 60 20 (encArgs [.guest, .i .i64, .rd .event] (g, n, log, ()))).ends fun out_ => decO [.b] out_ = some (K.few26 g n log) := by
  rw [t_ref26_Few, Tree.ends_holds]
  simp only [Tree.holds_loop, Tree.holds_fork, Tree.holds_next, if_true, Tree.holds_cond, Tree.holds_letv, Tree.holds_leaf, Tree.holds_fail, decO, decA, decTup, decMach, decCore, decTrap, decInstr, decPart, decGuest, decConf, decEvent, decVcpu, decStep, bytesS, boolS, eventsS, intsS, guestsS, vcpusS, rowS, castL, Option.bind_some, Option.map_some, Option.some.injEq, Nat.beq_refl, beq_self_eq_true, Bool.and_self, cond_true, cond_false, eq_self, beq_iff_eq, beq_eq_false_iff_ne, bne_iff_ne, bne_eq_false_iff_eq, ne_eq, decide_eq_true_eq, decide_eq_false_iff_not, ble_true, ble_false, inRange_iff, inRange_false, Int.ofNat_eq_natCast]
  repeat' (first | refine drop_ok ?_ | intro _ | with_reducible apply And.intro)
  all_goals (unfold K.few26; simp_all)
  all_goals (intros; omega)
  
theorem c_ref26_Few : SpecOk EB 20 S_ref26_Few := spec_sig ok_ref26_Few (n := 60) fun ⟨g, n, log, ⟨⟩⟩ h hok => a_ref26_Few g n log (ok_guest (okSL_head hok)) (ok_int (okSL_head (okSL_tail hok))) (ok_events (okSL_head (okSL_tail (okSL_tail hok))))
end

/-! ref26_Even -/
@[reducible] def L_Even (log : List PEvent) : LoopSpec where
  σ := Nat
  slots := [0, 3]
  keys := []
  vals := fun j => [.rd .event log, .v (.int .i64 (j : Int))]
  blks := fun _ => []
  inv := fun j => j ≤ log.length ∧ K.ordFrom (K.lastE log j) (log.drop j) = K.ordL log ∧ (0 < j → 0 ≤ (K.lastE log j).at_)
  mu := fun j => log.length - j
def S_ref26_Even : Spec := sig [.rd .event] [.b] (fun (log, _) => K.ordL log)
noncomputable def E_ref26_Even : Env := EB.adds []

theorem ok_ref26_Even : EnvOk E_ref26_Even := okEB.adds (l := _) trivial
theorem t_ref26_Even (log : List PEvent) : evFL E_ref26_Even (fun _ => some (L_Even log)) 60 19 (encArgs [.rd .event] (log, ())) = Tree.loop 0 (L_Even log) [(SV.rd ETy.event log), (SV.v (Value.int IntKind.i64 (0 : Int)))] [] fun (x0 : Nat) => (bif (decide ((Int.ofNat x0) < (Int.ofNat (List.length log)))) then (bif (inRange (Int.ofNat x0) (List.length log)) then (bif (decide ((List.getD log (Int.toNat (Int.ofNat x0)) (PEvent.mk (0 : Int) (0 : Int) (0 : Int))).at_ < (0 : Int))) then (Tree.leaf (SV.b false)) else (bif (decide ((Int.ofNat x0) > (0 : Int))) then (bif (inRange (Int.ofNat x0) (List.length log)) then (bif (inRange (IntKind.wrap IntKind.i64 ((Int.ofNat x0) - (1 : Int))) (List.length log)) then (bif (decide ((List.getD log (Int.toNat (Int.ofNat x0)) (PEvent.mk (0 : Int) (0 : Int) (0 : Int))).at_ ≤ (List.getD log (Int.toNat (IntKind.wrap IntKind.i64 ((Int.ofNat x0) - (1 : Int)))) (PEvent.mk (0 : Int) (0 : Int) (0 : Int))).at_)) then (Tree.leaf (SV.b false)) else (bif (inRange (Int.ofNat x0) (List.length log)) then (bif (inRange (IntKind.wrap IntKind.i64 ((Int.ofNat x0) - (1 : Int))) (List.length log)) then (bif (decide ((List.getD log (Int.toNat (Int.ofNat x0)) (PEvent.mk (0 : Int) (0 : Int) (0 : Int))).time < (List.getD log (Int.toNat (IntKind.wrap IntKind.i64 ((Int.ofNat x0) - (1 : Int)))) (PEvent.mk (0 : Int) (0 : Int) (0 : Int))).time)) then (Tree.leaf (SV.b false)) else ((Tree.next 0 [(SV.rd ETy.event log), (SV.v (Value.int IntKind.i64 (IntKind.wrap IntKind.i64
 ((Int.ofNat x0) + (1 : Int)))))] []))) else (Tree.fail)) else (Tree.fail))) else (Tree.fail)) else (Tree.fail)) else ((Tree.next 0 [(SV.rd ETy.event log), (SV.v (Value.int IntKind.i64 (IntKind.wrap IntKind.i64 ((Int.ofNat x0) + (1 : Int)))))] [])))) else (Tree.fail)) else (Tree.leaf (SV.b true))) := by kernel_rfl
section
attribute [local irreducible] evF evFL evFLs evFP
theorem a_ref26_Even (log : List PEvent) (ok_log : okEvents log) : (evFL E_ref26_Even (fun _ => some (L_Even log)) 60 19 (encArgs [.rd .event] (log, ()))).ends fun out_ => decO [.b] out_ = some (K.ordL log) := by
  rw [t_ref26_Even, Tree.ends_holds]
  have hlim : log.length ≤ 140737488355328 := ok_log.1
  simp only [Tree.holds_loop, Tree.holds_fork, Tree.holds_next, if_true, Tree.holds_cond, Tree.holds_letv, Tree.holds_leaf, Tree.holds_fail, decO, decA, decTup, decMach, decCore, decTrap, decInstr, decPart, decGuest, decConf, decEvent, decVcpu, decStep, bytesS, boolS, eventsS, intsS, guestsS, vcpusS, rowS, castL, Option.bind_some, Option.map_some, Option.some.injEq, Nat.beq_refl, beq_self_eq_true, Bool.and_self, cond_true, cond_false, eq_self, beq_iff_eq, beq_eq_false_iff_ne, bne_iff_ne, bne_eq_false_iff_eq, ne_eq, decide_eq_true_eq, decide_eq_false_iff_not, ble_true, ble_false, inRange_iff, inRange_false, Int.ofNat_eq_natCast, Int.toNat_natCast]
  refine ⟨⟨(0 : Nat), rfl, rfl, ⟨Nat.zero_le _, rfl, fun q => absurd q (Nat.lt_irrefl 0)⟩, trivial⟩, fun (j : Nat) hx => ?_⟩
  obtain ⟨i1, i2, i3⟩ := hx
  have i1 : j ≤ log.length := i1
  have i2 : K.ordFrom (K.lastE log j) (log.drop j) = K.ordL log := i2
  have i3 : 0 < j → 0 ≤ (K.lastE log j).at_ := i3
  by_cases hlt : j < log.length
  · have w1 : IntKind.i64.wrap ((j : Int) + 1) = ((j + 1 : Nat) : Int) := by rw [wrapI64 (by omega) (by omega)]; rfl
    have hd := ordFrom_drop (K.lastE log j) hlt
    rw [i2] at hd
    have hT : 0 ≤ (log.getD j ⟨0, 0, 0⟩).time := by
      rw [show log.getD j ⟨0, 0, 0⟩ = log[j] by simp [hlt]]
      exact (okI_u64 (ok_log.2 _ (List.getElem_mem hlt)).time).1
    have hnx : (K.lastE log j).at_ < (log.getD j ⟨0, 0, 0⟩).at_ → (K.lastE log j).time ≤ (log.getD j ⟨0, 0, 0⟩).time → 0 ≤ (log.getD j ⟨0, 0, 0⟩).at_ → (L_Even log).at (fun y => log.length - y < log.length - j) [.rd .event log, .v (.int .i64 ((j + 1 : Nat) : Int))] [] := fun q1 q2 q3 =>
      ⟨j + 1, rfl, rfl, ⟨by show j + 1 ≤ _; omega, by rw [hd, decide_eq_false (p := (log.getD j ⟨0, 0, 0⟩).at_ ≤ _) (by omega), decide_eq_false (p := (log.getD j ⟨0, 0, 0⟩).time < _) (by omega)]; rfl, fun _ => q3⟩, by show log.length - (j + 1) < log.length - j; omega⟩
    have hb1 : (log.getD j ⟨0, 0, 0⟩).at_ ≤ (K.lastE log j).at_ → false = K.ordL log := fun q => by rw [hd, decide_eq_true (p := (log.getD j ⟨0, 0, 0⟩).at_ ≤ _) q]; rfl
    have hb2 : (log.getD j ⟨0, 0, 0⟩).time < (K.lastE log j).time → false = K.ordL log := fun q => by rw [hd, decide_eq_true (p := (log.getD j ⟨0, 0, 0⟩).time < _) q, Bool.or_true]; rfl
    rcases Nat.eq_zero_or_pos j with h0 | h0
    · subst h0
      have l1 : (K.lastE log 0).at_ = -1 := rfl
      have l2 : (K.lastE log 0).time = 0 := rfl
      rw [l1] at hb1 hnx
      rw [l2] at hb2 hnx
      simp only [w1]
      repeat' (first | refine drop_ok ?_ | intro _ | with_reducible apply And.intro)
      all_goals first
        | exact hb1 (by omega)
        | exact hnx (by omega) hT (by omega)
        | omega
        | trace_state
    · have e1 : IntKind.i64.wrap ((j : Int) - 1) = ((j - 1 : Nat) : Int) := by rw [wrapI64 (by omega) (by omega)]; omega
      have l1 : K.lastE log j = log.getD (j - 1) ⟨0, 0, 0⟩ := by
        obtain ⟨k, rfl⟩ : ∃ k, j = k + 1 := ⟨j - 1, by omega⟩
        rfl
      have hp := i3 h0
      rw [l1] at hb1 hb2 hnx hp
      simp only [w1, e1, Int.toNat_natCast]
      repeat' (first | refine drop_ok ?_ | intro _ | with_reducible apply And.intro)
      all_goals first
        | exact hb1 (by omega)
        | exact hb2 (by omega)
        | exact hnx (by omega) (by omega) (by omega)
        | omega
        | trace_state
  · rw [ordFrom_end _ (by omega)] at i2
    repeat' (first | refine drop_ok ?_ | intro _ | with_reducible apply And.intro)
    all_goals first
      | (exfalso; omega)
      | exact i2
      | trace_state
  
theorem c_ref26_Even : SpecOk EB 19 S_ref26_Even := spec_sigL ok_ref26_Even (n := 60) (fun (log, _) => fun _ => some (L_Even log)) fun ⟨log, ⟨⟩⟩ h hok => a_ref26_Even log (ok_events (okSL_head hok))
end

/-! ref07_Clean -/

def S_ref07_Clean : Spec := sig [.a .u32 16] [.a .u32 16] (fun (r, _) => r.set 0 0)
noncomputable def E_ref07_Clean : Env := EB.adds []

theorem ok_ref07_Clean : EnvOk E_ref07_Clean := okEB.adds (l := _) trivial
theorem t_ref07_Clean (r : List Int) : evF E_ref07_Clean 60 39 (encArgs [.a .u32 16] (r, ())) = Tree.leaf (SV.agg [(SV.arr IntKind.u32 16 (List.set r 0 (0 : Int)))]) := by kernel_rfl
section
attribute [local irreducible] evF evFL evFLs evFP
theorem a_ref07_Clean (r : List Int) (ok_r : okL .u32 16 r) : (evF E_ref07_Clean 60 39 (encArgs [.a .u32 16] (r, ()))).ends fun out_ => decO [.a .u32 16] out_ = some (r.set 0 0) := by
  rw [t_ref07_Clean, Tree.ends_holds]
  simp only [Tree.holds_loop, Tree.holds_fork, Tree.holds_next, if_true, Tree.holds_cond, Tree.holds_letv, Tree.holds_leaf, Tree.holds_fail, decO, decA, decTup, decMach, decCore, decTrap, decInstr, decPart, decGuest, decConf, decEvent, decVcpu, decStep, bytesS, boolS, eventsS, intsS, guestsS, vcpusS, rowS, castL, Option.bind_some, Option.map_some, Option.some.injEq, Nat.beq_refl, beq_self_eq_true, Bool.and_self, cond_true, cond_false, eq_self]
  
theorem c_ref07_Clean : SpecOk EB 39 S_ref07_Clean := spec_sig ok_ref07_Clean (n := 60) fun ⟨r, ⟨⟩⟩ h hok => a_ref07_Clean r (ok_arr (okSL_head hok))
end

/-! ref04_Reset -/

def S_ref04_Reset : Spec := sig [] [.a .u32 12] (fun _ => K.reset)
noncomputable def E_ref04_Reset : Env := EB.adds []

theorem ok_ref04_Reset : EnvOk E_ref04_Reset := okEB.adds (l := _) trivial
theorem t_ref04_Reset : evF E_ref04_Reset 60 40 (encArgs [] ()) = Tree.leaf (SV.agg [(SV.arr IntKind.u32 12 [(1 : Int), (0 : Int), (0 : Int), (0 : Int), (0 : Int), (0 : Int), (0 : Int), (0 : Int), (0 : Int), (4294967295 : Int), (4294967295 : Int), (0 : Int)])]) := by kernel_rfl
section
attribute [local irreducible] evF evFL evFLs evFP
theorem a_ref04_Reset : (evF E_ref04_Reset 60 40 (encArgs [] ())).ends fun out_ => decO [.a .u32 12] out_ = some (K.reset) := by
  rw [t_ref04_Reset, Tree.ends_holds]
  rfl
  
theorem c_ref04_Reset : SpecOk EB 40 S_ref04_Reset := spec_sig ok_ref04_Reset (n := 60) fun () h hok => a_ref04_Reset 
end

/-! ref15_Alone -/
@[reducible] def L_Alone (g : PGuest) : LoopSpec where
  σ := Nat
  slots := [1, 2, 3, 4, 8]
  keys := [1, 2, 3, 8]
  vals := fun j => [.loc 0 0 0 1, .loc 1 0 0 1, .loc 2 0 0 1, .v (.int .i64 (j : Int)), .own 3]
  blks := fun j => [.cells (guestC g) 45, .cells [.arr .u32 16 [0, 0, 0, 0, 0, 0, 0, 0, 0, 0, 0, 0, 0, 0, 0, 0], .v (.int .u32 0), .arr .u32 12 [0, 0, 0, 0, 0, 0, 0, 0, 0, 0, 0, 0], .v (.slice none 0 0), .v (.int .u64 0), .v (.slice none 0 0), .b false] 30, .cells [.arr .u32 16 [0, 0, 0, 0, 0, 0, 0, 0, 0, 0, 0, 0, 0, 0, 0, 0], .v (.int .u32 0), .arr .u32 12 [0, 0, 0, 0, 0, 0, 0, 0, 0, 0, 0, 0], .own 3, .v (.int .u64 0), .v (.slice none 0 0), .b false] 30, .row .u8 (K.fillG g j) 5]
  inv := fun j => j ≤ g.mem.length
  mu := fun j => g.mem.length - j
def S_ref15_Alone : Spec := sig [.guest] [.mach] (fun (g, _) => K.bareG g) (pre := fun (g, _) => decide ((g.mem.length : Int) ≤ g.part.size))
noncomputable def E_ref15_Alone : Env := EB.adds [(39, S_ref07_Clean), (40, S_ref04_Reset)]

theorem ok_ref15_Alone : EnvOk E_ref15_Alone := okEB.adds (l := _) ⟨c_ref07_Clean, c_ref04_Reset, trivial⟩
theorem t_ref15_Alone (g : PGuest) : evFL E_ref15_Alone (fun _ => some (L_Alone g)) 60 23 (encArgs [.guest] (g, ())) = bif (Bool.and (decide ((0 : Int) ≤ g.part.size)) (Bool.and (decide (g.part.size = g.part.size)) (decide ((g.part.size * (1 : Int)) ≤ (140737488355328 : Int))))) then (Tree.loop 0 (L_Alone g) [(SV.loc 0 0 0 1), (SV.loc 1 0 0 1), (SV.loc 2 0 0 1), (SV.v (Value.int IntKind.i64 (0 : Int))), (SV.own 3)] [(Blk.cells [(SV.v (Value.int IntKind.u32 g.part.base)), (SV.v (Value.int IntKind.u32 g.part.size)), (SV.rd ETy.u8 g.mem), (SV.arr IntKind.u32 16 g.regs), (SV.v (Value.int IntKind.u32 g.pc))] 45), (Blk.cells [(SV.arr IntKind.u32 16 [(0 : Int), (0 : Int), (0 : Int), (0 : Int), (0 : Int), (0 : Int), (0 : Int), (0 : Int), (0 : Int), (0 : Int), (0 : Int), (0 : Int), (0 : Int), (0 : Int), (0 : Int), (0 : Int)]), (SV.v (Value.int IntKind.u32 (0 : Int))), (SV.arr IntKind.u32 12 [(0 : Int), (0 : Int), (0 : Int), (0 : Int), (0 : Int), (0 : Int), (0 : Int), (0 : Int), (0 : Int), (0 : Int), (0 : Int), (0 : Int)]), (SV.v (Value.slice Option.none 0 0)), (SV.v (Value.int IntKind.u64 (0 : Int))), (SV.v (Value.slice Option.none 0 0)), (SV.b false)] 30), (Blk.cells [(SV.arr IntKind.u32 16 [(0 : Int), (0 : Int), (0 : Int), (0 : Int), (0 : Int), (0 : Int), (0 : Int), (0 : Int), (0 : Int), (0 : Int), (0 : Int), (0 : Int), (0 : Int), (0 : Int), (0 : Int), (0 : Int)]), (SV.v (Value.int IntKind.u32 (0 : Int))), (SV.arr IntKind.u32 12 [(0 : Int), (0 : Int), (0 : Int), (0 : Int), (0 : Int),
 (0 : Int), (0 : Int), (0 : Int), (0 : Int), (0 : Int), (0 : Int), (0 : Int)]), (SV.own 3), (SV.v (Value.int IntKind.u64 (0 : Int))), (SV.v (Value.slice Option.none 0 0)), (SV.b false)] 30), (Blk.row ETy.u8 (List.replicate (Int.toNat g.part.size) (0 : Int)) 5)] fun (x0 : Nat) => (bif (decide ((Int.ofNat x0) < (Int.ofNat (List.length g.mem)))) then (bif (inRange (Int.ofNat x0) (List.length g.mem)) then (bif (inRange (Int.ofNat x0) (List.length (K.fillG g x0))) then ((Tree.next 0 [(SV.loc 0 0 0 1), (SV.loc 1 0 0 1), (SV.loc 2 0 0 1), (SV.v (Value.int IntKind.i64 (IntKind.wrap IntKind.i64 ((Int.ofNat x0) + (1 : Int))))), (SV.own 3)] [(Blk.cells [(SV.v (Value.int IntKind.u32 g.part.base)), (SV.v (Value.int IntKind.u32 g.part.size)), (SV.rd ETy.u8 g.mem), (SV.arr IntKind.u32 16 g.regs), (SV.v (Value.int IntKind.u32 g.pc))] 45), (Blk.cells [(SV.arr IntKind.u32 16 [(0 : Int), (0 : Int), (0 : Int), (0 : Int), (0 : Int), (0 : Int), (0 : Int), (0 : Int), (0 : Int), (0 : Int), (0 : Int), (0 : Int), (0 : Int), (0 : Int), (0 : Int), (0 : Int)]), (SV.v (Value.int IntKind.u32 (0 : Int))), (SV.arr IntKind.u32 12 [(0 : Int), (0 : Int), (0 : Int), (0 : Int), (0 : Int), (0 : Int), (0 : Int), (0 : Int), (0 : Int), (0 : Int), (0 : Int), (0 : Int)]), (SV.v (Value.slice Option.none 0 0)), (SV.v (Value.int IntKind.u64 (0 : Int))), (SV.v (Value.slice Option.none 0 0)), (SV.b false)] 30), (Blk.cells [(SV.arr IntKind.u32 16 [(0 : Int), (0 : Int), (0 : Int), (0 : Int), (0 : Int), (0 : Int), (0 : Int), (0
 : Int), (0 : Int), (0 : Int), (0 : Int), (0 : Int), (0 : Int), (0 : Int), (0 : Int), (0 : Int)]), (SV.v (Value.int IntKind.u32 (0 : Int))), (SV.arr IntKind.u32 12 [(0 : Int), (0 : Int), (0 : Int), (0 : Int), (0 : Int), (0 : Int), (0 : Int), (0 : Int), (0 : Int), (0 : Int), (0 : Int), (0 : Int)]), (SV.own 3), (SV.v (Value.int IntKind.u64 (0 : Int))), (SV.v (Value.slice Option.none 0 0)), (SV.b false)] 30), (Blk.row ETy.u8 (List.set (K.fillG g x0) (Int.toNat (Int.ofNat x0)) (List.getD g.mem (Int.toNat (Int.ofNat x0)) (0 : Int))) 5)])) else (Tree.fail)) else (Tree.fail)) else (Tree.letv (okO [(AT.a IntKind.u32 16)]) (List.set g.regs 0 (0 : Int)) fun x1 => (Tree.letv (okO [(AT.a IntKind.u32 12)]) K.reset fun x2 => (Tree.leaf (SV.agg [(SV.arr IntKind.u32 16 x1), (SV.v (Value.int IntKind.u32 g.pc)), (SV.arr IntKind.u32 12 x2), (SV.rd ETy.u8 (K.fillG g x0)), (SV.v (Value.int IntKind.u64 (0 : Int))), (SV.v (Value.slice Option.none 0 0)), (SV.b false)])))))) else (Tree.fail) := by kernel_rfl
section
attribute [local irreducible] evF evFL evFLs evFP
theorem a_ref15_Alone (g : PGuest) (hpre : (g.mem.length : Int) ≤ g.part.size) (ok_g : okGuest g) : (evFL E_ref15_Alone (fun _ => some (L_Alone g)) 60 23 (encArgs [.guest] (g, ()))).ends fun out_ => decO [.mach] out_ = some (K.bareG g) := by
  rw [t_ref15_Alone, Tree.ends_holds]
  obtain ⟨s0, s1⟩ := okI_u32 ok_g.part.size
  have i1 : (decide (0 ≤ g.part.size) && (decide True && decide (g.part.size * 1 ≤ 140737488355328))) = true := by
    simp only [decide_true, Bool.true_and, Bool.and_eq_true, decide_eq_true_eq]; omega
  have hlen : ∀ j : Nat, j ≤ g.mem.length → (K.fillG g j).length = g.part.size.toNat := fun j hj => by
    unfold K.fillG; simp only [List.length_append, List.length_take, List.length_replicate]; omega
  simp only [eq_self, i1, cond_true, Tree.holds_loop]
  refine ⟨⟨(0 : Nat), rfl, by show _ = [Blk.cells _ _, Blk.cells _ _, Blk.cells _ _, Blk.row .u8 (K.fillG g 0) _]; simp [K.fillG, guestC], Nat.zero_le _, trivial⟩, fun (j : Nat) hx => ?_⟩
  have hx : j ≤ g.mem.length := hx
  simp only [Tree.holds_loop, Tree.holds_fork, Tree.holds_next, if_true, Tree.holds_cond, Tree.holds_letv, Tree.holds_leaf, Tree.holds_fail, decO, decA, decTup, decMach, decCore, decTrap, decInstr, decPart, decGuest, decConf, decEvent, decVcpu, decStep, bytesS, boolS, eventsS, intsS, guestsS, vcpusS, rowS, castL, Option.bind_some, Option.map_some, Option.some.injEq, Nat.beq_refl, beq_self_eq_true, Bool.and_self, cond_true, cond_false, eq_self, beq_iff_eq, beq_eq_false_iff_ne, bne_iff_ne, bne_eq_false_iff_eq, ne_eq, decide_eq_true_eq, decide_eq_false_iff_not, ble_true, ble_false, inRange_iff, inRange_false, Int.ofNat_eq_natCast, Int.toNat_natCast]
  by_cases hlt : j < g.mem.length
  · have w1 : IntKind.i64.wrap ((j : Int) + 1) = ((j + 1 : Nat) : Int) := by rw [wrapI64 (by omega) (by omega)]; rfl
    have hl := hlen j hx
    simp only [w1, fillG_next hlt hpre, hl]
    repeat' (first | refine drop_ok ?_ | intro _ | with_reducible apply And.intro)
    all_goals first
      | omega
      | exact ⟨j + 1, rfl, rfl, (show j + 1 ≤ g.mem.length by omega), by show g.mem.length - (j + 1) < g.mem.length - j; omega⟩
      | trace_state
  · have hj : j = g.mem.length := by omega
    subst hj
    simp only [fillG_end hpre]
    repeat' (first | refine drop_ok ?_ | intro _ | with_reducible apply And.intro)
    all_goals first
      | (exfalso; omega)
      | rfl
      | trace_state
  
theorem c_ref15_Alone : SpecOk EB 23 S_ref15_Alone := spec_sigL ok_ref15_Alone (n := 60) (fun (g, _) => fun _ => some (L_Alone g)) fun ⟨g, ⟨⟩⟩ h hok => a_ref15_Alone g (of_decide_eq_true h) (ok_guest (okSL_head hok))
end

/-! ref06_By -/

def S_ref06_By : Spec := sig [.i .u32, .i .u32, .i .u32, .i .u32, .i .i64] [.i .u32, .b] (fun (base, bound, size, a, n, _) => K.reloc base bound size a n) (pre := fun (base, bound, size, a, n, _) => decide (0 ≤ n ∧ n ≤ 1099511627776))
noncomputable def E_ref06_By : Env := EB.adds []

theorem ok_ref06_By : EnvOk E_ref06_By := okEB.adds (l := _) trivial
theorem t_ref06_By (base : Int) (bound : Int) (size : Int) (a : Int) (n : Int) : evF E_ref06_By 60 159 (encArgs [.i .u32, .i .u32, .i .u32, .i .u32, .i .i64] (base, bound, size, a, n, ())) = bif (decide ((IntKind.wrap IntKind.i64 ((IntKind.wrap IntKind.i64 a) + n)) > (IntKind.wrap IntKind.i64 bound))) then (Tree.leaf (SV.tup [(SV.v (Value.int IntKind.u32 (0 : Int))), (SV.b false)])) else (bif (decide ((IntKind.wrap IntKind.i64 ((IntKind.wrap IntKind.i64 base) + (IntKind.wrap IntKind.i64 ((IntKind.wrap IntKind.i64 a) + n)))) > (IntKind.wrap IntKind.i64 size))) then (Tree.leaf (SV.tup [(SV.v (Value.int IntKind.u32 (0 : Int))), (SV.b false)])) else (Tree.leaf (SV.tup [(SV.v (Value.int IntKind.u32 (IntKind.wrap IntKind.u32 (IntKind.wrap IntKind.i64 ((IntKind.wrap IntKind.i64 base) + (IntKind.wrap IntKind.i64 a)))))), (SV.b true)]))) := by kernel_rfl
section
attribute [local irreducible] evF evFL evFLs evFP
theorem a_ref06_By (base : Int) (bound : Int) (size : Int) (a : Int) (n : Int) (hpre : 0 ≤ n ∧ n ≤ 1099511627776) (ok_base : okI .u32 base) (ok_bound : okI .u32 bound) (ok_size : okI .u32 size) (ok_a : okI .u32 a) (ok_n : okI .i64 n) : (evF E_ref06_By 60 159 (encArgs [.i .u32, .i .u32, .i .u32, .i .u32, .i .i64] (base, bound, size, a, n, ()))).ends fun out_ => decO [.i .u32, .b] out_ = some (K.reloc base bound size a n) := by
  rw [t_ref06_By, Tree.ends_holds]
  obtain ⟨a0, a1⟩ := okI_u32 ok_a
  obtain ⟨b0, b1⟩ := okI_u32 ok_base
  obtain ⟨c0, c1⟩ := okI_u32 ok_bound
  obtain ⟨d0, d1⟩ := okI_u32 ok_size
  have e1 : IntKind.i64.wrap a = a := wrapI64 (by omega) (by omega)
  have e3 : IntKind.i64.wrap size = size := wrapI64 (by omega) (by omega)
  have e4 : IntKind.i64.wrap (a + n) = a + n := wrapI64 (by omega) (by omega)
  have e5 : IntKind.i64.wrap base = base := wrapI64 (by omega) (by omega)
  have e6 : IntKind.i64.wrap bound = bound := wrapI64 (by omega) (by omega)
  have e7 : IntKind.i64.wrap (base + (a + n)) = base + (a + n) := wrapI64 (by omega) (by omega)
  have e8 : IntKind.i64.wrap (base + a) = base + a := wrapI64 (by omega) (by omega)
  simp only [Tree.holds_loop, Tree.holds_fork, Tree.holds_next, if_true, Tree.holds_cond, Tree.holds_letv, Tree.holds_leaf, Tree.holds_fail, decO, decA, decTup, decMach, decCore, decTrap, decInstr, decPart, decGuest, decConf, decEvent, decVcpu, decStep, bytesS, boolS, eventsS, intsS, guestsS, vcpusS, rowS, castL, Option.bind_some, Option.map_some, Option.some.injEq, Nat.beq_refl, beq_self_eq_true, Bool.and_self, cond_true, cond_false, eq_self, beq_iff_eq, beq_eq_false_iff_ne, bne_iff_ne, bne_eq_false_iff_eq, ne_eq, decide_eq_true_eq, decide_eq_false_iff_not, ble_true, ble_false, inRange_iff, inRange_false, K.reloc, e1, e3, e4, e5, e6, e7, e8]
  repeat' (first | refine drop_ok ?_ | intro _ | with_reducible apply And.intro)
  all_goals first | (rw [if_neg (by omega)]; done) | (rw [if_pos (by omega), show IntKind.u32.wrap (base + a) = base + a by rw [wrap32]; omega])
  
theorem c_ref06_By : SpecOk EB 159 S_ref06_By := spec_sig ok_ref06_By (n := 60) fun ⟨base, bound, size, a, n, ⟨⟩⟩ h hok => a_ref06_By base bound size a n (of_decide_eq_true h) (ok_int (okSL_head hok)) (ok_int (okSL_head (okSL_tail hok))) (ok_int (okSL_head (okSL_tail (okSL_tail hok)))) (ok_int (okSL_head (okSL_tail (okSL_tail (okSL_tail hok))))) (ok_int (okSL_head (okSL_tail (okSL_tail (okSL_tail (okSL_tail hok))))))
end

/-! ref06_Super -/

def S_ref06_Super : Spec := sig [.core] [.b] (fun (c, _) => K.super c)
noncomputable def E_ref06_Super : Env := EB.adds []

theorem ok_ref06_Super : EnvOk E_ref06_Super := okEB.adds (l := _) trivial
theorem t_ref06_Super (c : PCore) : evF E_ref06_Super 60 104 (encArgs [.core] (c, ())) = bif (BEq.beq (Int.tmod (List.getD c.csr 0 (0 : Int)) (2 : Int)) (1 : Int)) then (Tree.leaf (SV.b true)) else (Tree.leaf (SV.b false)) := by kernel_rfl
section
attribute [local irreducible] evF evFL evFLs evFP
theorem a_ref06_Super (c : PCore) (ok_c : okCore c) : (evF E_ref06_Super 60 104 (encArgs [.core] (c, ()))).ends fun out_ => decO [.b] out_ = some (K.super c) := by
  rw [t_ref06_Super, Tree.ends_holds]
  obtain ⟨s0, s1⟩ := ok_c.csr.u32 (i := 0) (by omega)
  simp only [Tree.holds_loop, Tree.holds_fork, Tree.holds_next, if_true, Tree.holds_cond, Tree.holds_letv, Tree.holds_leaf, Tree.holds_fail, decO, decA, decTup, decMach, decCore, decTrap, decInstr, decPart, decGuest, decConf, decEvent, decVcpu, decStep, bytesS, boolS, eventsS, intsS, guestsS, vcpusS, rowS, castL, Option.bind_some, Option.map_some, Option.some.injEq, Nat.beq_refl, beq_self_eq_true, Bool.and_self, cond_true, cond_false, eq_self, beq_iff_eq, beq_eq_false_iff_ne, bne_iff_ne, bne_eq_false_iff_eq, ne_eq, decide_eq_true_eq, decide_eq_false_iff_not, ble_true, ble_false, inRange_iff, inRange_false, K.super, Int.tmod_eq_emod_of_nonneg s0]
  repeat' (first | refine drop_ok ?_ | intro _ | with_reducible apply And.intro)
  all_goals simp_all
  
theorem c_ref06_Super : SpecOk EB 104 S_ref06_Super := spec_sig ok_ref06_Super (n := 60) fun ⟨c, ⟨⟩⟩ h hok => a_ref06_Super c (ok_core (okSL_head hok))
end

/-! ref06_At -/

def S_ref06_At : Spec := sig [.core, .i .u32, .i .u32, .i .i64] [.i .u32, .b] (fun (c, size, a, n, _) => K.trans c size a n) (pre := fun (c, size, a, n, _) => decide (0 ≤ n ∧ n ≤ 1099511627776))
noncomputable def E_ref06_At : Env := EB.adds [(159, S_ref06_By), (104, S_ref06_Super)]

theorem ok_ref06_At : EnvOk E_ref06_At := okEB.adds (l := _) ⟨c_ref06_By, c_ref06_Super, trivial⟩
theorem t_ref06_At (c : PCore) (size : Int) (a : Int) (n : Int) : evF E_ref06_At 60 147 (encArgs [.core, .i .u32, .i .u32, .i .i64] (c, size, a, n, ())) = Tree.letv (okO [AT.b]) (K.super c) fun x0 => (bif x0 then (bif (decide (And ((0 : Int) ≤ n) (n ≤ (1099511627776 : Int)))) then (Tree.letv (okO [(AT.i IntKind.u32), AT.b]) (K.reloc (0 : Int) size size a n) fun x1 => (bif x1.snd then (Tree.leaf (SV.tup [(SV.v (Value.int IntKind.u32 x1.fst)), (SV.b true)])) else (Tree.leaf (SV.tup [(SV.v (Value.int IntKind.u32 x1.fst)), (SV.b false)])))) else (Tree.fail)) else (bif (decide (And ((0 : Int) ≤ n) (n ≤ (1099511627776 : Int)))) then (Tree.letv (okO [(AT.i IntKind.u32), AT.b]) (K.reloc (List.getD c.csr 5 (0 : Int)) (List.getD c.csr 6 (0 : Int)) size a n) fun x1 => (bif x1.snd then (Tree.leaf (SV.tup [(SV.v (Value.int IntKind.u32 x1.fst)), (SV.b true)])) else (Tree.leaf (SV.tup [(SV.v (Value.int IntKind.u32 x1.fst)), (SV.b false)])))) else (Tree.fail))) := by kernel_rfl
section
attribute [local irreducible] evF evFL evFLs evFP
theorem a_ref06_At (c : PCore) (size : Int) (a : Int) (n : Int) (hpre : 0 ≤ n ∧ n ≤ 1099511627776) (ok_c : okCore c) (ok_size : okI .u32 size) (ok_a : okI .u32 a) (ok_n : okI .i64 n) : (evF E_ref06_At 60 147 (encArgs [.core, .i .u32, .i .u32, .i .i64] (c, size, a, n, ()))).ends fun out_ => decO [.i .u32, .b] out_ = some (K.trans c size a n) := by
  rw [t_ref06_At, Tree.ends_holds]
  simp only [Tree.holds_loop, Tree.holds_fork, Tree.holds_next, if_true, Tree.holds_cond, Tree.holds_letv, Tree.holds_leaf, Tree.holds_fail, decO, decA, decTup, decMach, decCore, decTrap, decInstr, decPart, decGuest, decConf, decEvent, decVcpu, decStep, bytesS, boolS, eventsS, intsS, guestsS, vcpusS, rowS, castL, Option.bind_some, Option.map_some, Option.some.injEq, Nat.beq_refl, beq_self_eq_true, Bool.and_self, cond_true, cond_false, eq_self, beq_iff_eq, beq_eq_false_iff_ne, bne_iff_ne, bne_eq_false_iff_eq, ne_eq, decide_eq_true_eq, decide_eq_false_iff_not, ble_true, ble_false, inRange_iff, inRange_false, K.trans]
  repeat' (first | refine drop_ok ?_ | intro _ | with_reducible apply And.intro)
  all_goals first | omega | (simp_all; done) | (simp_all; apply Prod.ext <;> simp_all; done)
  
theorem c_ref06_At : SpecOk EB 147 S_ref06_At := spec_sig ok_ref06_At (n := 60) fun ⟨c, size, a, n, ⟨⟩⟩ h hok => a_ref06_At c size a n (of_decide_eq_true h) (ok_core (okSL_head hok)) (ok_int (okSL_head (okSL_tail hok))) (ok_int (okSL_head (okSL_tail (okSL_tail hok)))) (ok_int (okSL_head (okSL_tail (okSL_tail (okSL_tail hok)))))
end

/-! ref10_Cell -/

def S_ref10_Cell : Spec := sig [.mach, .i .u32, .i .i64] [.i .u32, .trap] (fun (m, a, n, _) => K.cell m a n) (pre := fun (m, a, n, _) => decide (n = 1 ∨ n = 4))
noncomputable def E_ref10_Cell : Env := EB.adds [(147, S_ref06_At)]

theorem ok_ref10_Cell : EnvOk E_ref10_Cell := okEB.adds (l := _) ⟨c_ref06_At, trivial⟩
theorem t_ref10_Cell (m : PMach) (a : Int) (n : Int) : evF E_ref10_Cell 60 134 (encArgs [.mach, .i .u32, .i .i64] (m, a, n, ())) = bif (BEq.beq n (4 : Int)) then (bif (bne (Int.tmod a (4 : Int)) (0 : Int)) then (Tree.leaf (SV.tup [(SV.v (Value.int IntKind.u32 (0 : Int))), (SV.agg [(SV.v (Value.int IntKind.i64 (4 : Int))), (SV.v (Value.int IntKind.u32 a))])])) else (bif (decide (And ((0 : Int) ≤ n) (n ≤ (1099511627776 : Int)))) then (Tree.letv (okO [(AT.i IntKind.u32), AT.b]) (K.trans m.core (IntKind.wrap IntKind.u32 (Int.ofNat (List.length m.mem))) a n) fun x0 => (bif x0.snd then (Tree.leaf (SV.tup [(SV.v (Value.int IntKind.u32 x0.fst)), (SV.agg [(SV.v (Value.int IntKind.i64 (0 : Int))), (SV.v (Value.int IntKind.u32 (0 : Int)))])])) else (Tree.leaf (SV.tup [(SV.v (Value.int IntKind.u32 (0 : Int))), (SV.agg [(SV.v (Value.int IntKind.i64 (3 : Int))), (SV.v (Value.int IntKind.u32 a))])])))) else (Tree.fail))) else (bif (decide (And ((0 : Int) ≤ n) (n ≤ (1099511627776 : Int)))) then (Tree.letv (okO [(AT.i IntKind.u32), AT.b]) (K.trans m.core (IntKind.wrap IntKind.u32 (Int.ofNat (List.length m.mem))) a n) fun x0 => (bif x0.snd then (Tree.leaf (SV.tup [(SV.v (Value.int IntKind.u32 x0.fst)), (SV.agg [(SV.v (Value.int IntKind.i64 (0 : Int))), (SV.v (Value.int IntKind.u32 (0 : Int)))])])) else (Tree.leaf (SV.tup [(SV.v (Value.int IntKind.u32 (0 : Int))), (SV.agg [(SV.v (Value.int IntKind.i64 (3 : Int))), (SV.v (Value.int IntKind.u32 a))])])))) else (Tree.fail)) := by kernel_rfl
section
attribute [local irreducible] evF evFL evFLs evFP
theorem a_ref10_Cell (m : PMach) (a : Int) (n : Int) (hpre : n = 1 ∨ n = 4) (ok_m : okMach m) (ok_a : okI .u32 a) (ok_n : okI .i64 n) : (evF E_ref10_Cell 60 134 (encArgs [.mach, .i .u32, .i .i64] (m, a, n, ()))).ends fun out_ => decO [.i .u32, .trap] out_ = some (K.cell m a n) := by
  rw [t_ref10_Cell, Tree.ends_holds]
  obtain ⟨a0, a1⟩ := okI_u32 ok_a
  have hn : 1 ≤ n ∧ n ≤ 4 := by omega
  have e2 : Int.tmod a 4 = a % 4 := Int.tmod_eq_emod_of_nonneg a0
  have e3 : IntKind.u32.wrap (m.mem.length : Int) = (m.mem.length : Int) % 4294967296 := wrap32 _
  simp only [Tree.holds_loop, Tree.holds_fork, Tree.holds_next, if_true, Tree.holds_cond, Tree.holds_letv, Tree.holds_leaf, Tree.holds_fail, decO, decA, decTup, decMach, decCore, decTrap, decInstr, decPart, decGuest, decConf, decEvent, decVcpu, decStep, bytesS, boolS, eventsS, intsS, guestsS, vcpusS, rowS, castL, Option.bind_some, Option.map_some, Option.some.injEq, Nat.beq_refl, beq_self_eq_true, Bool.and_self, cond_true, cond_false, eq_self, beq_iff_eq, beq_eq_false_iff_ne, bne_iff_ne, bne_eq_false_iff_eq, ne_eq, decide_eq_true_eq, decide_eq_false_iff_not, ble_true, ble_false, inRange_iff, inRange_false, Int.ofNat_eq_natCast, e2, e3, K.cell]
  rcases hpre with h | h <;> subst h
  · have : a % 1 = 0 := by omega
    repeat' (first | refine drop_ok ?_ | intro _ | with_reducible apply And.intro)
    all_goals first | omega | (simp_all; done)
  · repeat' (first | refine drop_ok ?_ | intro _ | with_reducible apply And.intro)
    all_goals first | omega | (simp_all; done)
  
theorem c_ref10_Cell : SpecOk EB 134 S_ref10_Cell := spec_sig ok_ref10_Cell (n := 60) fun ⟨m, a, n, ⟨⟩⟩ h hok => a_ref10_Cell m a n (of_decide_eq_true h) (ok_mach (okSL_head hok)) (ok_int (okSL_head (okSL_tail hok))) (ok_int (okSL_head (okSL_tail (okSL_tail hok))))
end

/-! ref05_There -/

def S_ref05_There : Spec := sig [.i .i64, .i .u32, .i .i64] [.b] (fun (size, a, n, _) => K.inR size a n) (pre := fun (size, a, n, _) => decide (0 ≤ n ∧ n ≤ 1099511627776 ∧ 0 ≤ size))
noncomputable def E_ref05_There : Env := EB.adds []

theorem ok_ref05_There : EnvOk E_ref05_There := okEB.adds (l := _) trivial
theorem t_ref05_There (size : Int) (a : Int) (n : Int) : evF E_ref05_There 60 58 (encArgs [.i .i64, .i .u32, .i .i64] (size, a, n, ())) = bif (decide ((IntKind.wrap IntKind.i64 a) ≤ (IntKind.wrap IntKind.i64 (size - n)))) then (Tree.leaf (SV.b true)) else (Tree.leaf (SV.b false)) := by kernel_rfl
section
attribute [local irreducible] evF evFL evFLs evFP
theorem a_ref05_There (size : Int) (a : Int) (n : Int) (hpre : 0 ≤ n ∧ n ≤ 1099511627776 ∧ 0 ≤ size) (ok_size : okI .i64 size) (ok_a : okI .u32 a) (ok_n : okI .i64 n) : (evF E_ref05_There 60 58 (encArgs [.i .i64, .i .u32, .i .i64] (size, a, n, ()))).ends fun out_ => decO [.b] out_ = some (K.inR size a n) := by
  rw [t_ref05_There, Tree.ends_holds]
  obtain ⟨a0, a1⟩ := okI_u32 ok_a
  obtain ⟨s0, s1⟩ := okI_i64 ok_size
  have e1 : IntKind.i64.wrap a = a := wrapI64 (by omega) (by omega)
  have e2 : IntKind.i64.wrap (size - n) = size - n := wrapI64 (by omega) (by omega)
  simp only [Tree.holds_loop, Tree.holds_fork, Tree.holds_next, if_true, Tree.holds_cond, Tree.holds_letv, Tree.holds_leaf, Tree.holds_fail, decO, decA, decTup, decMach, decCore, decTrap, decInstr, decPart, decGuest, decConf, decEvent, decVcpu, decStep, bytesS, boolS, eventsS, intsS, guestsS, vcpusS, rowS, castL, Option.bind_some, Option.map_some, Option.some.injEq, Nat.beq_refl, beq_self_eq_true, Bool.and_self, cond_true, cond_false, eq_self, beq_iff_eq, beq_eq_false_iff_ne, bne_iff_ne, bne_eq_false_iff_eq, ne_eq, decide_eq_true_eq, decide_eq_false_iff_not, ble_true, ble_false, inRange_iff, inRange_false, K.inR, e1, e2]
  repeat' (first | refine drop_ok ?_ | intro _ | with_reducible apply And.intro)
  all_goals (simp; omega)
  
theorem c_ref05_There : SpecOk EB 58 S_ref05_There := spec_sig ok_ref05_There (n := 60) fun ⟨size, a, n, ⟨⟩⟩ h hok => a_ref05_There size a n (of_decide_eq_true h) (ok_int (okSL_head hok)) (ok_int (okSL_head (okSL_tail hok))) (ok_int (okSL_head (okSL_tail (okSL_tail hok))))
end

/-! ref05_Load -/

def S_ref05_Load : Spec := sig [.rd .u8, .i .u32, .i .i64] [.i .u32, .b] (fun (m, a, n, _) => if K.inR m.length a n = true then (K.ld m a n, true) else (0, false)) (pre := fun (m, a, n, _) => decide (n = 1 ∨ n = 4))
noncomputable def E_ref05_Load : Env := EB.adds [(58, S_ref05_There)]

theorem ok_ref05_Load : EnvOk E_ref05_Load := okEB.adds (l := _) ⟨c_ref05_There, trivial⟩
theorem t1_c_ref05_Load (m : List Int) (a : Int) : evF E_ref05_Load 60 135 [.rd .u8 m, .v (.int .u32 a), .v (.int .i64 1)] = 
  bif (decide (And ((0 : Int) ≤ (1 : Int)) (And ((1 : Int) ≤ (1099511627776 : Int)) ((0 : Int) ≤ (Int.ofNat (List.length m)))))) then
    (Tree.letv (okO [AT.b]) (K.inR (Int.ofNat (List.length m)) a (1 : Int)) fun x0 =>
    (bif x0 then
      (bif (inRange (IntKind.wrap IntKind.i64 ((IntKind.wrap IntKind.i64 a) + (0 : Int))) (List.length m)) then
        (Tree.leaf (SV.tup [(SV.v (Value.int IntKind.u32 (IntKind.wrap IntKind.u32 ((0 : Int) + (IntKind.wrap IntKind.u32 (List.getD m (Int.toNat (IntKind.wrap IntKind.i64 ((IntKind.wrap IntKind.i64 a) + (0 : Int)))) (0 : Int))))))), (SV.b true)]))
      else
        (Tree.fail))
    else
      (Tree.leaf (SV.tup [(SV.v (Value.int IntKind.u32 (0 : Int))), (SV.b false)]))))
  else
    (Tree.fail) := by kernel_rfl
theorem t4_c_ref05_Load (m : List Int) (a : Int) : evF E_ref05_Load 60 135 [.rd .u8 m, .v (.int .u32 a), .v (.int .i64 4)] = 
  bif (decide (And ((0 : Int) ≤ (4 : Int)) (And ((4 : Int) ≤ (1099511627776 : Int)) ((0 : Int) ≤ (Int.ofNat (List.length m)))))) then
    (Tree.letv (okO [AT.b]) (K.inR (Int.ofNat (List.length m)) a (4 : Int)) fun x0 =>
    (bif x0 then
      (bif (inRange (IntKind.wrap IntKind.i64 ((IntKind.wrap IntKind.i64 a) + (3 : Int))) (List.length m)) then
        (bif (inRange (IntKind.wrap IntKind.i64 ((IntKind.wrap IntKind.i64 a) + (2 : Int))) (List.length m)) then
          (bif (inRange (IntKind.wrap IntKind.i64 ((IntKind.wrap IntKind.i64 a) + (1 : Int))) (List.length m)) then
            (bif (inRange (IntKind.wrap IntKind.i64 ((IntKind.wrap IntKind.i64 a) + (0 : Int))) (List.length m)) then
              (Tree.leaf (SV.tup [(SV.v (Value.int IntKind.u32 (IntKind.wrap IntKind.u32 ((IntKind.wrap IntKind.u32 ((IntKind.wrap IntKind.u32 ((IntKind.wrap IntKind.u32 ((IntKind.wrap IntKind.u32 ((IntKind.wrap IntKind.u32 ((IntKind.wrap IntKind.u32 ((0 : Int) + (IntKind.wrap IntKind.u32 (List.getD m (Int.toNat (IntKind.wrap IntKind.i64 ((IntKind.wrap IntKind.i64 a) + (3 : Int)))) (0 : Int))))) * (256 : Int))) + (IntKind.wrap IntKind.u32 (List.getD m (Int.toNat (IntKind.wrap IntKind.i64 ((IntKind.wrap IntKind.i64 a) + (2 : Int)))) (0 : Int))))) * (256 : Int))) + (IntKind.wrap IntKind.u32 (List.getD m (Int.toNat (IntKind.wrap IntKind.i64 ((IntKind.wrap IntKind.i64 a) + (1 : Int)))) (0 : Int))))) * (256 : Int))) + (IntKind.wrap IntKind.u32 (List.getD m (Int.toNat (IntKind.wrap IntKind.i64 ((IntKind.wrap IntKind.i64 a) + (0 : Int)))) (0 : Int))))))), (SV.b true)]))
            else
              (Tree.fail))
          else
            (Tree.fail))
        else
          (Tree.fail))
      else
        (Tree.fail))
    else
      (Tree.leaf (SV.tup [(SV.v (Value.int IntKind.u32 (0 : Int))), (SV.b false)]))))
  else
    (Tree.fail) := by kernel_rfl
theorem a1_c_ref05_Load (m : List Int) (a : Int) (ok_m : okBytes m) (ok_a : okI .u32 a) : (evF E_ref05_Load 60 135 [.rd .u8 m, .v (.int .u32 a), .v (.int .i64 1)]).ends fun out_ => decO [.i .u32, .b] out_ = some (if K.inR m.length a 1 = true then (K.ld m a 1, true) else (0, false)) := by
  rw [t1_c_ref05_Load, Tree.ends_holds]
  obtain ⟨a0, a1⟩ := okI_u32 ok_a
  have b0 := byte_at ok_m a.toNat
  have ew : IntKind.i64.wrap a = a := wrapI64 (by omega) (by omega)
  have i0 : IntKind.i64.wrap (a + 0) = a := by rw [wrapI64 (by omega) (by omega)]; omega
  have v0 : (0 * 256 % 4294967296 + m.getD a.toNat 0 % 4294967296) % 4294967296 = m.getD a.toNat 0 := by omega
  have v1 : (0 + m.getD a.toNat 0 % 4294967296) % 4294967296 = m.getD a.toNat 0 := by omega
  simp only [Tree.holds_loop, Tree.holds_fork, Tree.holds_next, if_true, Tree.holds_cond, Tree.holds_letv, Tree.holds_leaf, Tree.holds_fail, decO, decA, decTup, decMach, decCore, decTrap, decInstr, decPart, decGuest, decConf, decEvent, decVcpu, decStep, bytesS, boolS, eventsS, intsS, guestsS, vcpusS, rowS, castL, Option.bind_some, Option.map_some, Option.some.injEq, Nat.beq_refl, beq_self_eq_true, Bool.and_self, cond_true, cond_false, eq_self, beq_iff_eq, beq_eq_false_iff_ne, bne_iff_ne, bne_eq_false_iff_eq, ne_eq, decide_eq_true_eq, decide_eq_false_iff_not, ble_true, ble_false, inRange_iff, inRange_false, Int.ofNat_eq_natCast, ew, i0, wrap32, v0, v1]
  repeat' (first | refine drop_ok ?_ | intro _ | with_reducible apply And.intro)
  all_goals first | (rw [if_pos (by assumption)]; first | rfl | (congr 2; done) | (simp [K.ld]; omega)) | (rw [if_neg (by simp_all)]) | omega | (simp_all [K.inR]; omega)
theorem a4_c_ref05_Load (m : List Int) (a : Int) (ok_m : okBytes m) (ok_a : okI .u32 a) : (evF E_ref05_Load 60 135 [.rd .u8 m, .v (.int .u32 a), .v (.int .i64 4)]).ends fun out_ => decO [.i .u32, .b] out_ = some (if K.inR m.length a 4 = true then (K.ld m a 4, true) else (0, false)) := by
  rw [t4_c_ref05_Load, Tree.ends_holds]
  obtain ⟨a0, a1⟩ := okI_u32 ok_a
  have ew : IntKind.i64.wrap a = a := wrapI64 (by omega) (by omega)
  have i0 : IntKind.i64.wrap (a + 0) = a := by rw [wrapI64 (by omega) (by omega)]; omega
  have i1 : IntKind.i64.wrap (a + 1) = a + 1 := wrapI64 (by omega) (by omega)
  have i2 : IntKind.i64.wrap (a + 2) = a + 2 := wrapI64 (by omega) (by omega)
  have i3 : IntKind.i64.wrap (a + 3) = a + 3 := wrapI64 (by omega) (by omega)
  have n1 : (a + 1).toNat = a.toNat + 1 := by omega
  have n2 : (a + 2).toNat = a.toNat + 2 := by omega
  have n3 : (a + 3).toNat = a.toNat + 3 := by omega
  obtain ⟨p0, q0⟩ := byte_at ok_m a.toNat
  obtain ⟨p1, q1⟩ := byte_at ok_m (a.toNat + 1)
  obtain ⟨p2, q2⟩ := byte_at ok_m (a.toNat + 2)
  obtain ⟨p3, q3⟩ := byte_at ok_m (a.toNat + 3)
  have fin : ∀ x : Int, x = m.getD a.toNat 0 + 256 * m.getD (a.toNat + 1) 0 + 65536 * m.getD (a.toNat + 2) 0 + 16777216 * m.getD (a.toNat + 3) 0 → (x, true) = (K.ld m a 4, true) := fun x h => by rw [h]; rfl
  simp only [Tree.holds_loop, Tree.holds_fork, Tree.holds_next, if_true, Tree.holds_cond, Tree.holds_letv, Tree.holds_leaf, Tree.holds_fail, decO, decA, decTup, decMach, decCore, decTrap, decInstr, decPart, decGuest, decConf, decEvent, decVcpu, decStep, bytesS, boolS, eventsS, intsS, guestsS, vcpusS, rowS, castL, Option.bind_some, Option.map_some, Option.some.injEq, Nat.beq_refl, beq_self_eq_true, Bool.and_self, cond_true, cond_false, eq_self, beq_iff_eq, beq_eq_false_iff_ne, bne_iff_ne, bne_eq_false_iff_eq, ne_eq, decide_eq_true_eq, decide_eq_false_iff_not, ble_true, ble_false, inRange_iff, inRange_false, Int.ofNat_eq_natCast, ew, i0, i1, i2, i3, n1, n2, n3, wrap32]
  repeat' (first | refine drop_ok ?_ | intro _ | with_reducible apply And.intro)
  all_goals first | (rw [if_pos (by assumption)]; apply fin; omega) | (rw [if_neg (by simp_all)]) | omega | (simp_all [K.inR]; omega)
theorem c_ref05_Load : SpecOk EB 135 S_ref05_Load := spec_sig ok_ref05_Load (n := 60) fun ⟨m, a, n, ⟨⟩⟩ h hok => by
  have h := of_decide_eq_true h
  have o1 := ok_bytes (okSL_head hok)
  have o2 := ok_int (okSL_head (okSL_tail hok))
  rcases h with h | h
  · have h : n = 1 := h
    subst h; exact a1_c_ref05_Load m a o1 o2
  · have h : n = 4 := h
    subst h; exact a4_c_ref05_Load m a o1 o2


end Go.Proofs.YtchljgmcempedaaGreatDoor
