/- Contracts of functions, by evaluation (nothing is claimed here). -/
import Derived.Test.YtmbmahgaejcjiaaGreatDoorSh29
import Derived.KernelRfl
import Derived.Test.YtmbmahgaejcjiaaGreatDoorProg
import Derived.Test.YtmbmahgaejcjiaaGreatDoorTimeSlicesComposeB3
set_option linter.unusedVariables false
set_option linter.unusedSimpArgs false
set_option maxRecDepth 100000
set_option maxHeartbeats 1000000
namespace Go.Proofs.YtmbmahgaejcjiaaGreatDoor
open Go
/-! priv_Execute -/

def S_priv_Execute : Spec := sig [.mach, .instr] [.mach] (fun (m, i, _) => K.priv m i) (pre := fun (m, i, _) => decide (m.out.length ≤ 1099511627776))
noncomputable def E_priv_Execute : Env := EB.adds [(136, S_regs_Get), (138, S_regs_Set), (137, S_trap_Return), (139, S_csr_Read), (140, S_csr_Write)]

theorem ok_priv_Execute : EnvOk E_priv_Execute := okEB.adds (l := _) ⟨c_regs_Get, c_regs_Set, c_trap_Return, c_csr_Read, c_csr_Write, trivial⟩

theorem t_priv_Execute (m : PMach) (i : PInstr) : evF E_priv_Execute 60 121 (encArgs [.mach, .instr] (m, i, ())) = 
 Tree.letv (okO [(AT.i IntKind.u32)]) (K.get m.core.regs i.ra) fun x0 =>
 (bif (BEq.beq i.op (23 : Int)) then
 (Tree.letv (okO [AT.core]) (K.ret m.core) fun x1 =>
 (Tree.leaf (SV.agg [(SV.arr IntKind.u32 16 x1.regs), (SV.v (Value.int IntKind.u32 x1.pc)), (SV.arr IntKind.u32 12 x1.csr), (SV.rd ETy.u8 m.mem), (SV.v (Value.int IntKind.u64 m.time)), (SV.rd ETy.u8 m.out), (SV.v (Value.bool m.halted))])))
 else
 (bif (BEq.beq i.op (21 : Int)) then
 (Tree.letv (okO [(AT.i IntKind.u32)]) (K.csrRead m.core.csr m.time (IntKind.wrap IntKind.i64 i.imm)) fun x1 =>
 (Tree.letv (okO [(AT.a IntKind.u32 16)]) (K.put m.core.regs i.rd x1) fun x2 =>
 (Tree.leaf (SV.agg [(SV.arr IntKind.u32 16 x2), (SV.v (Value.int IntKind.u32 (IntKind.wrap IntKind.u32 (m.core.pc + (4 : Int))))), (SV.arr IntKind.u32 12 m.core.csr), (SV.rd ETy.u8 m.mem), (SV.v (Value.int IntKind.u64 m.time)), (SV.rd ETy.u8 m.out), (SV.v (Value.bool m.halted))]))))
 else
 (bif (BEq.beq i.op (22 : Int)) then
 (Tree.letv (okO [(AT.a IntKind.u32 12)]) (K.csrWrite m.core.csr (IntKind.wrap IntKind.i64 i.imm) x0) fun x1 =>
 (Tree.leaf (SV.agg [(SV.arr IntKind.u32 16 m.core.regs), (SV.v (Value.int IntKind.u32 (IntKind.wrap IntKind.u32 (m.core.pc + (4 : Int))))), (SV.arr IntKind.u32 12 x1), (SV.rd ETy.u8 m.mem), (SV.v (Value.int IntKind.u64 m.time)), (SV.rd ETy.u8 m.out), (SV.v (Value.bool m.halted))])))
 else
 (bif (BEq.beq i.op (24 : Int)) then
 (Tree.leaf (SV.agg [(SV.arr IntKind.u32 16 m.core.regs), (SV.v (Value.int IntKind.u32 (IntKind.wrap IntKind.u32 (m.core.pc + (4 : Int))))), (SV.arr IntKind.u32 12 m.core.csr), (SV.rd ETy.u8 m.mem), (SV.v (Value.int IntKind.u64 m.time)), (SV.rd ETy.u8 m.out), (SV.b true)]))
 else
 (bif (BEq.beq i.op (25 : Int)) then
 (bif (Bool.and (decide ((0 : Int) ≤ (Int.ofNat (List.length m.out)))) (Bool.and (decide ((Int.ofNat (List.length m.out)) ≤ (Int.ofNat (List.length m.out)))) (decide ((Int.ofNat (List.length m.out)) = (Int.ofNat (List.length m.out)))))) then
 (bif (Nat.ble (((List.length (List.drop 0 (List.take (Int.toNat (Int.ofNat (List.length m.out))) m.out))) + 1) * 1) 140737488355328) then
 (Tree.leaf (SV.agg [(SV.arr IntKind.u32 16 m.core.regs), (SV.v (Value.int IntKind.u32 (IntKind.wrap IntKind.u32 (m.core.pc + (4 : Int))))), (SV.arr IntKind.u32 12 m.core.csr), (SV.rd ETy.u8 m.mem), (SV.v (Value.int IntKind.u64 m.time)), (SV.rd ETy.u8 (List.append (List.drop 0 (List.take (Int.toNat (Int.ofNat (List.length m.out))) m.out)) [(IntKind.wrap IntKind.u8 x0)])), (SV.v (Value.bool m.halted))]))
 else
 (Tree.fail))
 else
 (Tree.fail))
 else
 (Tree.leaf (SV.agg [(SV.arr IntKind.u32 16 m.core.regs), (SV.v (Value.int IntKind.u32 (IntKind.wrap IntKind.u32 (m.core.pc + (4 : Int))))), (SV.arr IntKind.u32 12 m.core.csr), (SV.rd ETy.u8 m.mem), (SV.v (Value.int IntKind.u64 m.time)), (SV.rd ETy.u8 m.out), (SV.v (Value.bool m.halted))]))))))) := by kernel_rfl
section
attribute [local irreducible] evF evFL evFLs
theorem a_priv_Execute (m : PMach) (i : PInstr) (hpre : m.out.length ≤ 1099511627776) (ok_m : okMach m) (ok_i : okInstr i) : (evF E_priv_Execute 60 121 (encArgs [.mach, .instr] (m, i, ()))).ends fun out_ => decO [.mach] out_ = some (K.priv m i) := by
  rw [t_priv_Execute, Tree.ends_holds]
  obtain ⟨a, b⟩ := okI_i32 ok_i.imm
  have e1 : IntKind.i64.wrap i.imm = i.imm := wrapI64 (by omega) (by omega)
  obtain ⟨g0, g1⟩ := K.get_ok ok_m.core.regs i.ra
  have e2 : Int.tmod (K.get m.core.regs i.ra) 256 = K.get m.core.regs i.ra % 256 := Int.tmod_eq_emod_of_nonneg g0
  simp only [Tree.holds_loop, Tree.holds_fork, Tree.holds_next, if_true, Tree.holds_cond, Tree.holds_letv, Tree.holds_leaf, Tree.holds_fail, decO, decA, decTup, decMach, decCore, decTrap, decInstr, decPart, decGuest, decConf, decEvent, decVcpu, decStep, bytesS, boolS, eventsS, intsS, guestsS, vcpusS, rowS, castL, Option.bind_some, Option.map_some, Option.some.injEq, Nat.beq_refl, beq_self_eq_true, Bool.and_self, cond_true, cond_false, eq_self, e1, e2, wrap8, wrap32, beq_iff_eq, beq_eq_false_iff_ne, bne_iff_ne, bne_eq_false_iff_eq, ne_eq, decide_eq_true_eq, decide_eq_false_iff_not, ble_true, ble_false, inRange_iff, inRange_false, List.drop_zero, Int.ofNat_eq_natCast, Int.toNat_natCast, List.take_length, List.append_eq, Bool.and_eq_true, decide_true, and_true, true_and, Int.emod_emod]
  repeat' (first | refine drop_ok ?_ | intro _ | with_reducible apply And.intro)
  all_goals first | omega | (simp_all [K.priv, K.adv]; done) | skip
  
theorem c_priv_Execute : SpecOk EB 121 S_priv_Execute := spec_sig ok_priv_Execute (n := 60) fun ⟨m, i, ⟨⟩⟩ h hok => a_priv_Execute m i (of_decide_eq_true h) (ok_mach (okSL_head hok)) (ok_instr (okSL_head (okSL_tail hok)))
end

/-! exec_Advance -/

def S_exec_Advance : Spec := sig [.core, .i .u32] [.core] (fun (c, by_, _) => { regs := c.regs, pc := (c.pc + by_) % 4294967296, csr := c.csr })
noncomputable def E_exec_Advance : Env := EB.adds []

theorem ok_exec_Advance : EnvOk E_exec_Advance := okEB.adds (l := _) trivial

theorem t_exec_Advance (c : PCore) (by_ : Int) : evF E_exec_Advance 60 141 (encArgs [.core, .i .u32] (c, by_, ())) = 
 Tree.leaf (SV.agg [(SV.arr IntKind.u32 16 c.regs), (SV.v (Value.int IntKind.u32 (IntKind.wrap IntKind.u32 (c.pc + by_)))), (SV.arr IntKind.u32 12 c.csr)]) := by kernel_rfl
section
attribute [local irreducible] evF evFL evFLs
theorem a_exec_Advance (c : PCore) (by_ : Int) (ok_c : okCore c) (ok_by_ : okI .u32 by_) : (evF E_exec_Advance 60 141 (encArgs [.core, .i .u32] (c, by_, ()))).ends fun out_ => decO [.core] out_ = some ({ regs := c.regs, pc := (c.pc + by_) % 4294967296, csr := c.csr }) := by
  rw [t_exec_Advance, Tree.ends_holds]
  simp only [Tree.holds_loop, Tree.holds_fork, Tree.holds_next, if_true, Tree.holds_cond, Tree.holds_letv, Tree.holds_leaf, Tree.holds_fail, decO, decA, decTup, decMach, decCore, decTrap, decInstr, decPart, decGuest, decConf, decEvent, decVcpu, decStep, bytesS, boolS, eventsS, intsS, guestsS, vcpusS, rowS, castL, Option.bind_some, Option.map_some, Option.some.injEq, Nat.beq_refl, beq_self_eq_true, Bool.and_self, cond_true, cond_false, eq_self, wrap32]
  
theorem c_exec_Advance : SpecOk EB 141 S_exec_Advance := spec_sig ok_exec_Advance (n := 60) fun ⟨c, by_, ⟨⟩⟩ h hok => a_exec_Advance c by_ (ok_core (okSL_head hok)) (ok_int (okSL_head (okSL_tail hok)))
end

/-! alu_LessSigned -/

def S_alu_LessSigned : Spec := sig [.i .u32, .i .u32] [.b] (fun (x, y, _) => decide (K.sgn x < K.sgn y))
noncomputable def E_alu_LessSigned : Env := EB.adds []

theorem ok_alu_LessSigned : EnvOk E_alu_LessSigned := okEB.adds (l := _) trivial

theorem t_alu_LessSigned (x : Int) (y : Int) : evF E_alu_LessSigned 60 175 (encArgs [.i .u32, .i .u32] (x, y, ())) = 
 bif (decide ((IntKind.wrap IntKind.i32 x) < (IntKind.wrap IntKind.i32 y))) then
 (Tree.leaf (SV.b true))
 else
 (Tree.leaf (SV.b false)) := by kernel_rfl
section
attribute [local irreducible] evF evFL evFLs
theorem a_alu_LessSigned (x : Int) (y : Int) (ok_x : okI .u32 x) (ok_y : okI .u32 y) : (evF E_alu_LessSigned 60 175 (encArgs [.i .u32, .i .u32] (x, y, ()))).ends fun out_ => decO [.b] out_ = some (decide (K.sgn x < K.sgn y)) := by
  rw [t_alu_LessSigned, Tree.ends_holds]
  obtain ⟨x0, x1⟩ := okI_u32 ok_x
  obtain ⟨y0, y1⟩ := okI_u32 ok_y
  have e : ∀ z : Int, 0 ≤ z → z < 4294967296 → IntKind.i32.wrap z = K.sgn z := fun z h0 h1 => by
    unfold K.sgn
    simp only [IntKind.wrap, IntKind.bits, IntKind.signed, Bool.true_and, decide_eq_true_eq, Nat.reduceSub, Int.reducePow, ge_iff_le]
    (repeat' split) <;> omega
  simp only [Tree.holds_loop, Tree.holds_fork, Tree.holds_next, if_true, Tree.holds_cond, Tree.holds_letv, Tree.holds_leaf, Tree.holds_fail, decO, decA, decTup, decMach, decCore, decTrap, decInstr, decPart, decGuest, decConf, decEvent, decVcpu, decStep, bytesS, boolS, eventsS, intsS, guestsS, vcpusS, rowS, castL, Option.bind_some, Option.map_some, Option.some.injEq, Nat.beq_refl, beq_self_eq_true, Bool.and_self, cond_true, cond_false, eq_self, beq_iff_eq, beq_eq_false_iff_ne, bne_iff_ne, bne_eq_false_iff_eq, ne_eq, decide_eq_true_eq, decide_eq_false_iff_not, ble_true, ble_false, inRange_iff, inRange_false, e x x0 x1, e y y0 y1]
  repeat' (first | refine drop_ok ?_ | intro _ | with_reducible apply And.intro)
  all_goals simp_all
  
theorem c_alu_LessSigned : SpecOk EB 175 S_alu_LessSigned := spec_sig ok_alu_LessSigned (n := 60) fun ⟨x, y, ⟨⟩⟩ h hok => a_alu_LessSigned x y (ok_int (okSL_head hok)) (ok_int (okSL_head (okSL_tail hok)))
end

/-! alu_Eval -/

def S_alu_Eval : Spec := sig [.i .i64, .i .u32, .i .u32] [.i .u32] (fun (op, x, y, _) => K.alu op x y)
noncomputable def E_alu_Eval : Env := EB.adds [(175, S_alu_LessSigned)]

theorem ok_alu_Eval : EnvOk E_alu_Eval := okEB.adds (l := _) ⟨c_alu_LessSigned, trivial⟩

theorem t_alu_Eval (op : Int) (x : Int) (y : Int) : evF E_alu_Eval 60 167 (encArgs [.i .i64, .i .u32, .i .u32] (op, x, y, ())) = 
 bif (BEq.beq op (1 : Int)) then
 (Tree.leaf (SV.v (Value.int IntKind.u32 (IntKind.wrap IntKind.u32 (x + y)))))
 else
 (bif (BEq.beq op (2 : Int)) then
 (Tree.leaf (SV.v (Value.int IntKind.u32 (IntKind.wrap IntKind.u32 (x - y)))))
 else
 (bif (BEq.beq op (3 : Int)) then
 (Tree.leaf (SV.v (Value.int IntKind.u32 (andI IntKind.u32 x y))))
 else
 (bif (BEq.beq op (4 : Int)) then
 (Tree.leaf (SV.v (Value.int IntKind.u32 (orI IntKind.u32 x y))))
 else
 (bif (BEq.beq op (5 : Int)) then
 (Tree.leaf (SV.v (Value.int IntKind.u32 (xorI IntKind.u32 x y))))
 else
 (bif (BEq.beq op (6 : Int)) then
 (Tree.letv (okO [AT.b]) (decide ((K.sgn x) < (K.sgn y))) fun x0 =>
 (bif x0 then
 (Tree.leaf (SV.v (Value.int IntKind.u32 (1 : Int))))
 else
 (Tree.leaf (SV.v (Value.int IntKind.u32 (0 : Int))))))
 else
 (bif (BEq.beq op (7 : Int)) then
 (bif (decide ((0 : Int) ≤ (andI IntKind.u32 y (31 : Int)))) then
 (Tree.leaf (SV.v (Value.int IntKind.u32 (IntKind.wrap IntKind.u32 (x * ((2 : Int) ^ (if ((Int.toNat (andI IntKind.u32 y (31 : Int))) ≤ 32) then (Int.toNat (andI IntKind.u32 y (31 : Int))) else 32)))))))
 else
 (Tree.fail))
 else
 (bif (BEq.beq op (8 : Int)) then
 (bif (decide ((0 : Int) ≤ (andI IntKind.u32 y (31 : Int)))) then
 (Tree.leaf (SV.v (Value.int IntKind.u32 (Int.fdiv x ((2 : Int) ^ (if ((Int.toNat (andI IntKind.u32 y (31 : Int))) ≤ 32) then (Int.toNat (andI IntKind.u32 y (31 : Int))) else 32))))))
 else
 (Tree.fail))
 else
 (Tree.leaf (SV.v (Value.int IntKind.u32 (0 : Int))))))))))) := by kernel_rfl
section
attribute [local irreducible] evF evFL evFLs
theorem a_alu_Eval (op : Int) (x : Int) (y : Int) (ok_op : okI .i64 op) (ok_x : okI .u32 x) (ok_y : okI .u32 y) : (evF E_alu_Eval 60 167 (encArgs [.i .i64, .i .u32, .i .u32] (op, x, y, ()))).ends fun out_ => decO [.i .u32] out_ = some (K.alu op x y) := by
  rw [t_alu_Eval, Tree.ends_holds]
  obtain ⟨x0, x1⟩ := okI_u32 ok_x
  obtain ⟨y0, y1⟩ := okI_u32 ok_y
  have a31 : andI .u32 y 31 = y % 32 := by have := and_low32 5 (by omega) y0 y1; simpa using this
  have hle : (y % 32).toNat ≤ 32 := by omega
  have e7 : x * 2 ^ (y % 32).toNat = x * K.pow (y % 32) := by unfold K.pow; simp
  have e8 : x.fdiv (2 ^ (y % 32).toNat) = x / K.pow (y % 32) := by
    rw [Int.fdiv_eq_ediv_of_nonneg _ (Int.le_of_lt (Int.pow_pos (by omega)))]; unfold K.pow; simp
  simp only [Tree.holds_loop, Tree.holds_fork, Tree.holds_next, if_true, Tree.holds_cond, Tree.holds_letv, Tree.holds_leaf, Tree.holds_fail, decO, decA, decTup, decMach, decCore, decTrap, decInstr, decPart, decGuest, decConf, decEvent, decVcpu, decStep, bytesS, boolS, eventsS, intsS, guestsS, vcpusS, rowS, castL, Option.bind_some, Option.map_some, Option.some.injEq, Nat.beq_refl, beq_self_eq_true, Bool.and_self, cond_true, cond_false, eq_self, beq_iff_eq, beq_eq_false_iff_ne, bne_iff_ne, bne_eq_false_iff_eq, ne_eq, decide_eq_true_eq, decide_eq_false_iff_not, ble_true, ble_false, inRange_iff, inRange_false, wrap32, a31, if_pos hle, e7, e8]
  repeat' (first | refine drop_ok ?_ | intro _ | with_reducible apply And.intro)
  all_goals first | omega | (subst_vars; simp_all [K.alu]; done) | (simp_all [K.alu]; done)
  
theorem c_alu_Eval : SpecOk EB 167 S_alu_Eval := spec_sig ok_alu_Eval (n := 60) fun ⟨op, x, y, ⟨⟩⟩ h hok => a_alu_Eval op x y (ok_int (okSL_head hok)) (ok_int (okSL_head (okSL_tail hok))) (ok_int (okSL_head (okSL_tail (okSL_tail hok))))
end

/-! alu_BranchTaken -/

def S_alu_BranchTaken : Spec := sig [.i .i64, .i .u32, .i .u32] [.b] (fun (op, x, y, _) => K.taken op x y)
noncomputable def E_alu_BranchTaken : Env := EB.adds [(175, S_alu_LessSigned)]

theorem ok_alu_BranchTaken : EnvOk E_alu_BranchTaken := okEB.adds (l := _) ⟨c_alu_LessSigned, trivial⟩

theorem t_alu_BranchTaken (op : Int) (x : Int) (y : Int) : evF E_alu_BranchTaken 60 165 (encArgs [.i .i64, .i .u32, .i .u32] (op, x, y, ())) = 
 bif (BEq.beq op (15 : Int)) then
 (bif (BEq.beq x y) then
 (Tree.leaf (SV.b true))
 else
 (Tree.leaf (SV.b false)))
 else
 (bif (BEq.beq op (16 : Int)) then
 (bif (bne x y) then
 (Tree.leaf (SV.b true))
 else
 (Tree.leaf (SV.b false)))
 else
 (bif (BEq.beq op (17 : Int)) then
 (Tree.letv (okO [AT.b]) (decide ((K.sgn x) < (K.sgn y))) fun x0 =>
 (bif x0 then
 (Tree.leaf (SV.b true))
 else
 (Tree.leaf (SV.b false))))
 else
 (Tree.leaf (SV.b false)))) := by kernel_rfl
section
attribute [local irreducible] evF evFL evFLs
theorem a_alu_BranchTaken (op : Int) (x : Int) (y : Int) (ok_op : okI .i64 op) (ok_x : okI .u32 x) (ok_y : okI .u32 y) : (evF E_alu_BranchTaken 60 165 (encArgs [.i .i64, .i .u32, .i .u32] (op, x, y, ()))).ends fun out_ => decO [.b] out_ = some (K.taken op x y) := by
  rw [t_alu_BranchTaken, Tree.ends_holds]
  simp only [Tree.holds_loop, Tree.holds_fork, Tree.holds_next, if_true, Tree.holds_cond, Tree.holds_letv, Tree.holds_leaf, Tree.holds_fail, decO, decA, decTup, decMach, decCore, decTrap, decInstr, decPart, decGuest, decConf, decEvent, decVcpu, decStep, bytesS, boolS, eventsS, intsS, guestsS, vcpusS, rowS, castL, Option.bind_some, Option.map_some, Option.some.injEq, Nat.beq_refl, beq_self_eq_true, Bool.and_self, cond_true, cond_false, eq_self, beq_iff_eq, beq_eq_false_iff_ne, bne_iff_ne, bne_eq_false_iff_eq, ne_eq, decide_eq_true_eq, decide_eq_false_iff_not, ble_true, ble_false, inRange_iff, inRange_false, K.taken]
  repeat' (first | refine drop_ok ?_ | intro _ | with_reducible apply And.intro)
  all_goals simp_all
  
theorem c_alu_BranchTaken : SpecOk EB 165 S_alu_BranchTaken := spec_sig ok_alu_BranchTaken (n := 60) fun ⟨op, x, y, ⟨⟩⟩ h hok => a_alu_BranchTaken op x y (ok_int (okSL_head hok)) (ok_int (okSL_head (okSL_tail hok))) (ok_int (okSL_head (okSL_tail (okSL_tail hok))))
end

/-! mem_Store -/

def S_mem_Store : Spec := sig [.rd .u8, .i .u32, .i .i64, .i .u32] [.rd .u8, .b] (fun (m, a, n, v, _) => if K.inR m.length a n = true then (K.st m a n v, true) else (m, false)) (pre := fun (m, a, n, v, _) => decide ((n = 1 ∨ n = 4) ∧ m.length ≤ 1099511627776))
noncomputable def E_mem_Store : Env := EB.adds [(178, S_mem_InRange)]

theorem ok_mem_Store : EnvOk E_mem_Store := okEB.adds (l := _) ⟨c_mem_InRange, trivial⟩
theorem t1_c_mem_Store (m : List Int) (a v : Int) : evF E_mem_Store 60 174 [.rd .u8 m, .v (.int .u32 a), .v (.int .i64 1), .v (.int .u32 v)] = 
  bif (decide (And ((0 : Int) ≤ (1 : Int)) (And ((1 : Int) ≤ (1099511627776 : Int)) ((0 : Int) ≤ (Int.ofNat (List.length m)))))) then
    (Tree.letv (okO [AT.b]) (K.inR (Int.ofNat (List.length m)) a (1 : Int)) fun x0 =>
    (bif x0 then
      (bif (Nat.beq (List.length m) 0) then
        (Tree.fork
          (Tree.fail)
          (bif (Bool.or (Bool.not (Nat.beq (List.length m) 0)) true) then
            (bif (Nat.ble ((0 + (List.length m)) * 1) 140737488355328) then
              (bif (inRange (IntKind.wrap IntKind.i64 ((IntKind.wrap IntKind.i64 a) + (0 : Int))) (List.length m)) then
                (Tree.leaf (SV.tup [(SV.rd ETy.u8 (List.set m (Int.toNat (IntKind.wrap IntKind.i64 ((IntKind.wrap IntKind.i64 a) + (0 : Int)))) (IntKind.wrap IntKind.u8 (Int.fdiv v (1 : Int))))), (SV.b true)]))
              else
                (Tree.fail))
            else
              (Tree.fail))
          else
            (Tree.fail)))
      else
        (bif (Bool.or (Bool.not (Nat.beq (List.length m) 0)) true) then
          (bif (Nat.ble ((0 + (List.length m)) * 1) 140737488355328) then
            (bif (inRange (IntKind.wrap IntKind.i64 ((IntKind.wrap IntKind.i64 a) + (0 : Int))) (List.length m)) then
              (Tree.leaf (SV.tup [(SV.rd ETy.u8 (List.set m (Int.toNat (IntKind.wrap IntKind.i64 ((IntKind.wrap IntKind.i64 a) + (0 : Int)))) (IntKind.wrap IntKind.u8 (Int.fdiv v (1 : Int))))), (SV.b true)]))
            else
              (Tree.fail))
          else
            (Tree.fail))
        else
          (Tree.fail)))
    else
      (Tree.leaf (SV.tup [(SV.rd ETy.u8 m), (SV.b false)]))))
  else
    (Tree.fail) := by kernel_rfl
theorem t4_c_mem_Store (m : List Int) (a v : Int) : evF E_mem_Store 60 174 [.rd .u8 m, .v (.int .u32 a), .v (.int .i64 4), .v (.int .u32 v)] = 
  bif (decide (And ((0 : Int) ≤ (4 : Int)) (And ((4 : Int) ≤ (1099511627776 : Int)) ((0 : Int) ≤ (Int.ofNat (List.length m)))))) then
    (Tree.letv (okO [AT.b]) (K.inR (Int.ofNat (List.length m)) a (4 : Int)) fun x0 =>
    (bif x0 then
      (bif (Nat.beq (List.length m) 0) then
        (Tree.fork
          (Tree.fail)
          (bif (Bool.or (Bool.not (Nat.beq (List.length m) 0)) true) then
            (bif (Nat.ble ((0 + (List.length m)) * 1) 140737488355328) then
              (bif (inRange (IntKind.wrap IntKind.i64 ((IntKind.wrap IntKind.i64 a) + (0 : Int))) (List.length m)) then
                (bif (inRange (IntKind.wrap IntKind.i64 ((IntKind.wrap IntKind.i64 a) + (1 : Int))) (List.length (List.set m (Int.toNat (IntKind.wrap IntKind.i64 ((IntKind.wrap IntKind.i64 a) + (0 : Int)))) (IntKind.wrap IntKind.u8 (Int.fdiv v (1 : Int)))))) then
                  (bif (inRange (IntKind.wrap IntKind.i64 ((IntKind.wrap IntKind.i64 a) + (2 : Int))) (List.length (List.set (List.set m (Int.toNat (IntKind.wrap IntKind.i64 ((IntKind.wrap IntKind.i64 a) + (0 : Int)))) (IntKind.wrap IntKind.u8 (Int.fdiv v (1 : Int)))) (Int.toNat (IntKind.wrap IntKind.i64 ((IntKind.wrap IntKind.i64 a) + (1 : Int)))) (IntKind.wrap IntKind.u8 (Int.fdiv v (256 : Int)))))) then
                    (bif (inRange (IntKind.wrap IntKind.i64 ((IntKind.wrap IntKind.i64 a) + (3 : Int))) (List.length (List.set (List.set (List.set m (Int.toNat (IntKind.wrap IntKind.i64 ((IntKind.wrap IntKind.i64 a) + (0 : Int)))) (IntKind.wrap IntKind.u8 (Int.fdiv v (1 : Int)))) (Int.toNat (IntKind.wrap IntKind.i64 ((IntKind.wrap IntKind.i64 a) + (1 : Int)))) (IntKind.wrap IntKind.u8 (Int.fdiv v (256 : Int)))) (Int.toNat (IntKind.wrap IntKind.i64 ((IntKind.wrap IntKind.i64 a) + (2 : Int)))) (IntKind.wrap IntKind.u8 (Int.fdiv v (65536 : Int)))))) then
                      (Tree.leaf (SV.tup [(SV.rd ETy.u8 (List.set (List.set (List.set (List.set m (Int.toNat (IntKind.wrap IntKind.i64 ((IntKind.wrap IntKind.i64 a) + (0 : Int)))) (IntKind.wrap IntKind.u8 (Int.fdiv v (1 : Int)))) (Int.toNat (IntKind.wrap IntKind.i64 ((IntKind.wrap IntKind.i64 a) + (1 : Int)))) (IntKind.wrap IntKind.u8 (Int.fdiv v (256 : Int)))) (Int.toNat (IntKind.wrap IntKind.i64 ((IntKind.wrap IntKind.i64 a) + (2 : Int)))) (IntKind.wrap IntKind.u8 (Int.fdiv v (65536 : Int)))) (Int.toNat (IntKind.wrap IntKind.i64 ((IntKind.wrap IntKind.i64 a) + (3 : Int)))) (IntKind.wrap IntKind.u8 (Int.fdiv v (16777216 : Int))))), (SV.b true)]))
                    else
                      (Tree.fail))
                  else
                    (Tree.fail))
                else
                  (Tree.fail))
              else
                (Tree.fail))
            else
              (Tree.fail))
          else
            (Tree.fail)))
      else
        (bif (Bool.or (Bool.not (Nat.beq (List.length m) 0)) true) then
          (bif (Nat.ble ((0 + (List.length m)) * 1) 140737488355328) then
            (bif (inRange (IntKind.wrap IntKind.i64 ((IntKind.wrap IntKind.i64 a) + (0 : Int))) (List.length m)) then
              (bif (inRange (IntKind.wrap IntKind.i64 ((IntKind.wrap IntKind.i64 a) + (1 : Int))) (List.length (List.set m (Int.toNat (IntKind.wrap IntKind.i64 ((IntKind.wrap IntKind.i64 a) + (0 : Int)))) (IntKind.wrap IntKind.u8 (Int.fdiv v (1 : Int)))))) then
                (bif (inRange (IntKind.wrap IntKind.i64 ((IntKind.wrap IntKind.i64 a) + (2 : Int))) (List.length (List.set (List.set m (Int.toNat (IntKind.wrap IntKind.i64 ((IntKind.wrap IntKind.i64 a) + (0 : Int)))) (IntKind.wrap IntKind.u8 (Int.fdiv v (1 : Int)))) (Int.toNat (IntKind.wrap IntKind.i64 ((IntKind.wrap IntKind.i64 a) + (1 : Int)))) (IntKind.wrap IntKind.u8 (Int.fdiv v (256 : Int)))))) then
                  (bif (inRange (IntKind.wrap IntKind.i64 ((IntKind.wrap IntKind.i64 a) + (3 : Int))) (List.length (List.set (List.set (List.set m (Int.toNat (IntKind.wrap IntKind.i64 ((IntKind.wrap IntKind.i64 a) + (0 : Int)))) (IntKind.wrap IntKind.u8 (Int.fdiv v (1 : Int)))) (Int.toNat (IntKind.wrap IntKind.i64 ((IntKind.wrap IntKind.i64 a) + (1 : Int)))) (IntKind.wrap IntKind.u8 (Int.fdiv v (256 : Int)))) (Int.toNat (IntKind.wrap IntKind.i64 ((IntKind.wrap IntKind.i64 a) + (2 : Int)))) (IntKind.wrap IntKind.u8 (Int.fdiv v (65536 : Int)))))) then
                    (Tree.leaf (SV.tup [(SV.rd ETy.u8 (List.set (List.set (List.set (List.set m (Int.toNat (IntKind.wrap IntKind.i64 ((IntKind.wrap IntKind.i64 a) + (0 : Int)))) (IntKind.wrap IntKind.u8 (Int.fdiv v (1 : Int)))) (Int.toNat (IntKind.wrap IntKind.i64 ((IntKind.wrap IntKind.i64 a) + (1 : Int)))) (IntKind.wrap IntKind.u8 (Int.fdiv v (256 : Int)))) (Int.toNat (IntKind.wrap IntKind.i64 ((IntKind.wrap IntKind.i64 a) + (2 : Int)))) (IntKind.wrap IntKind.u8 (Int.fdiv v (65536 : Int)))) (Int.toNat (IntKind.wrap IntKind.i64 ((IntKind.wrap IntKind.i64 a) + (3 : Int)))) (IntKind.wrap IntKind.u8 (Int.fdiv v (16777216 : Int))))), (SV.b true)]))
                  else
                    (Tree.fail))
                else
                  (Tree.fail))
              else
                (Tree.fail))
            else
              (Tree.fail))
          else
            (Tree.fail))
        else
          (Tree.fail)))
    else
      (Tree.leaf (SV.tup [(SV.rd ETy.u8 m), (SV.b false)]))))
  else
    (Tree.fail) := by kernel_rfl
theorem a1_c_mem_Store (m : List Int) (a v : Int) (hm : m.length ≤ 1099511627776) (ok_m : okBytes m) (ok_a : okI .u32 a) (ok_v : okI .u32 v) : (evF E_mem_Store 60 174 [.rd .u8 m, .v (.int .u32 a), .v (.int .i64 1), .v (.int .u32 v)]).ends fun out_ => decO [.rd .u8, .b] out_ = some (if K.inR m.length a 1 = true then (K.st m a 1 v, true) else (m, false)) := by
  rw [t1_c_mem_Store, Tree.ends_holds]
  obtain ⟨a0, a1⟩ := okI_u32 ok_a
  obtain ⟨v0, v1⟩ := okI_u32 ok_v
  have ew : IntKind.i64.wrap a = a := wrapI64 (by omega) (by omega)
  have i0 : IntKind.i64.wrap (a + 0) = a := by rw [wrapI64 (by omega) (by omega)]; omega
  have s1 : K.inR m.length a 1 = true → K.st m a 1 v = m.set a.toNat (v % 256) := fun _ => rfl
  have hr : K.inR m.length a 1 = true ↔ a + 1 ≤ (m.length : Int) := by simp [K.inR]
  have d0 : v.fdiv 1 = v := by simp
  have hz : m.length.beq 0 = true → m.length = 0 := fun h => Nat.eq_of_beq_eq_true h
  simp only [Tree.holds_loop, Tree.holds_fork, Tree.holds_next, if_true, Tree.holds_cond, Tree.holds_letv, Tree.holds_leaf, Tree.holds_fail, decO, decA, decTup, decMach, decCore, decTrap, decInstr, decPart, decGuest, decConf, decEvent, decVcpu, decStep, bytesS, boolS, eventsS, intsS, guestsS, vcpusS, rowS, castL, Option.bind_some, Option.map_some, Option.some.injEq, Nat.beq_refl, beq_self_eq_true, Bool.and_self, cond_true, cond_false, eq_self, beq_iff_eq, beq_eq_false_iff_ne, bne_iff_ne, bne_eq_false_iff_eq, ne_eq, decide_eq_true_eq, decide_eq_false_iff_not, ble_true, ble_false, inRange_iff, inRange_false, Int.ofNat_eq_natCast, ew, i0, wrap8, d0]
  repeat' (first | refine drop_ok ?_ | intro _ | with_reducible apply And.intro)
  all_goals first | (rw [if_pos (by assumption)]; rfl) | (rw [if_neg (by simp_all)]; done) | omega | (exfalso; have := hr.1 (by assumption); omega) | (exfalso; have q := hr.1 (by assumption); have := hz (by assumption); omega) | (rename_i z; simp at z; done)
theorem a4_c_mem_Store (m : List Int) (a v : Int) (hm : m.length ≤ 1099511627776) (ok_m : okBytes m) (ok_a : okI .u32 a) (ok_v : okI .u32 v) : (evF E_mem_Store 60 174 [.rd .u8 m, .v (.int .u32 a), .v (.int .i64 4), .v (.int .u32 v)]).ends fun out_ => decO [.rd .u8, .b] out_ = some (if K.inR m.length a 4 = true then (K.st m a 4 v, true) else (m, false)) := by
  rw [t4_c_mem_Store, Tree.ends_holds]
  obtain ⟨a0, a1⟩ := okI_u32 ok_a
  obtain ⟨v0, v1⟩ := okI_u32 ok_v
  have ew : IntKind.i64.wrap a = a := wrapI64 (by omega) (by omega)
  have i0 : IntKind.i64.wrap (a + 0) = a := by rw [wrapI64 (by omega) (by omega)]; omega
  have i1 : IntKind.i64.wrap (a + 1) = a + 1 := wrapI64 (by omega) (by omega)
  have i2 : IntKind.i64.wrap (a + 2) = a + 2 := wrapI64 (by omega) (by omega)
  have i3 : IntKind.i64.wrap (a + 3) = a + 3 := wrapI64 (by omega) (by omega)
  have n1 : (a + 1).toNat = a.toNat + 1 := by omega
  have n2 : (a + 2).toNat = a.toNat + 2 := by omega
  have n3 : (a + 3).toNat = a.toNat + 3 := by omega
  have hr : K.inR m.length a 4 = true ↔ a + 4 ≤ (m.length : Int) := by simp [K.inR]
  have d0 : v.fdiv 1 = v := by simp
  have hz : m.length.beq 0 = true → m.length = 0 := fun h => Nat.eq_of_beq_eq_true h
  have d1 : v.fdiv 256 = v / 256 := Int.fdiv_eq_ediv_of_nonneg _ (by omega)
  have d2 : v.fdiv 65536 = v / 65536 := Int.fdiv_eq_ediv_of_nonneg _ (by omega)
  have d3 : v.fdiv 16777216 = v / 16777216 := Int.fdiv_eq_ediv_of_nonneg _ (by omega)
  simp only [Tree.holds_loop, Tree.holds_fork, Tree.holds_next, if_true, Tree.holds_cond, Tree.holds_letv, Tree.holds_leaf, Tree.holds_fail, decO, decA, decTup, decMach, decCore, decTrap, decInstr, decPart, decGuest, decConf, decEvent, decVcpu, decStep, bytesS, boolS, eventsS, intsS, guestsS, vcpusS, rowS, castL, Option.bind_some, Option.map_some, Option.some.injEq, Nat.beq_refl, beq_self_eq_true, Bool.and_self, cond_true, cond_false, eq_self, beq_iff_eq, beq_eq_false_iff_ne, bne_iff_ne, bne_eq_false_iff_eq, ne_eq, decide_eq_true_eq, decide_eq_false_iff_not, ble_true, ble_false, inRange_iff, inRange_false, Int.ofNat_eq_natCast, ew, i0, i1, i2, i3, n1, n2, n3, wrap8, d0, d1, d2, d3, List.length_set]
  repeat' (first | refine drop_ok ?_ | intro _ | with_reducible apply And.intro)
  all_goals first | (rw [if_pos (by assumption)]; rfl) | (rw [if_neg (by simp_all)]; done) | omega | (exfalso; have := hr.1 (by assumption); omega) | (exfalso; have q := hr.1 (by assumption); have := hz (by assumption); omega) | (rename_i z; simp at z; done) | trace_state
theorem c_mem_Store : SpecOk EB 174 S_mem_Store := spec_sig ok_mem_Store (n := 60) fun ⟨m, a, n, v, ⟨⟩⟩ h hok => by
  have h := of_decide_eq_true h
  have o1 := ok_bytes (okSL_head hok)
  have o2 := ok_int (okSL_head (okSL_tail hok))
  have o3 := ok_int (okSL_head (okSL_tail (okSL_tail (okSL_tail hok))))
  rcases h with ⟨h | h, hm⟩
  · have h : n = 1 := h
    subst h; exact a1_c_mem_Store m a v hm o1 o2 o3
  · have h : n = 4 := h
    subst h; exact a4_c_mem_Store m a v hm o1 o2 o3


/-! fetch_Store -/

def S_fetch_Store : Spec := sig [.mach, .i .u32, .i .i64, .i .u32] [.mach, .trap] (fun (m, a, n, v, _) => K.store m a n v) (pre := fun (m, a, n, v, _) => decide ((n = 1 ∨ n = 4) ∧ m.mem.length ≤ 1099511627776))
noncomputable def E_fetch_Store : Env := EB_2.adds [(168, S_fetch_Resolve), (174, S_mem_Store)]

theorem ok_fetch_Store : EnvOk E_fetch_Store := okEB_2.adds (l := _) ⟨c_fetch_Resolve, (up_to_2 c_mem_Store), trivial⟩

theorem t_fetch_Store (m : PMach) (a : Int) (n : Int) (v : Int) : evF E_fetch_Store 60 164 (encArgs [.mach, .i .u32, .i .i64, .i .u32] (m, a, n, v, ())) = 
 bif (decide (Or (n = (1 : Int)) (n = (4 : Int)))) then
 (Tree.letv (okO [(AT.i IntKind.u32), AT.trap]) (K.cell m a n) fun x0 =>
 (bif (Bool.not (Bool.and (BEq.beq x0.snd.cause (0 : Int)) (Bool.and (BEq.beq x0.snd.tval (0 : Int)) true))) then
 (Tree.leaf (SV.tup [(SV.agg [(SV.arr IntKind.u32 16 m.core.regs), (SV.v (Value.int IntKind.u32 m.core.pc)), (SV.arr IntKind.u32 12 m.core.csr), (SV.rd ETy.u8 m.mem), (SV.v (Value.int IntKind.u64 m.time)), (SV.rd ETy.u8 m.out), (SV.v (Value.bool m.halted))]), (SV.agg [(SV.v (Value.int IntKind.i64 x0.snd.cause)), (SV.v (Value.int IntKind.u32 x0.snd.tval))])]))
 else
 (bif (decide (And (Or (n = (1 : Int)) (n = (4 : Int))) ((List.length m.mem) ≤ 1099511627776))) then
 (Tree.letv (okO [(AT.rd ETy.u8), AT.b]) (if ((K.inR (Int.ofNat (List.length m.mem)) x0.fst n) = true) then ((K.st m.mem x0.fst n v), true) else (m.mem, false)) fun x1 =>
 (bif x1.snd then
 (Tree.leaf (SV.tup [(SV.agg [(SV.arr IntKind.u32 16 m.core.regs), (SV.v (Value.int IntKind.u32 m.core.pc)), (SV.arr IntKind.u32 12 m.core.csr), (SV.rd ETy.u8 x1.fst), (SV.v (Value.int IntKind.u64 m.time)), (SV.rd ETy.u8 m.out), (SV.v (Value.bool m.halted))]), (SV.agg [(SV.v (Value.int IntKind.i64 (0 : Int))), (SV.v (Value.int IntKind.u32 (0 : Int)))])]))
 else
 (Tree.leaf (SV.tup [(SV.agg [(SV.arr IntKind.u32 16 m.core.regs), (SV.v (Value.int IntKind.u32 m.core.pc)), (SV.arr IntKind.u32 12 m.core.csr), (SV.rd ETy.u8 x1.fst), (SV.v (Value.int IntKind.u64 m.time)), (SV.rd ETy.u8 m.out), (SV.v (Value.bool m.halted))]), (SV.agg [(SV.v (Value.int IntKind.i64 (0 : Int))), (SV.v (Value.int IntKind.u32 (0 : Int)))])]))))
 else
 (Tree.fail))))
 else
 (Tree.fail) := by kernel_rfl
section
attribute [local irreducible] evF evFL evFLs
theorem a_fetch_Store (m : PMach) (a : Int) (n : Int) (v : Int) (hpre : (n = 1 ∨ n = 4) ∧ m.mem.length ≤ 1099511627776) (ok_m : okMach m) (ok_a : okI .u32 a) (ok_n : okI .i64 n) (ok_v : okI .u32 v) : (evF E_fetch_Store 60 164 (encArgs [.mach, .i .u32, .i .i64, .i .u32] (m, a, n, v, ()))).ends fun out_ => decO [.mach, .trap] out_ = some (K.store m a n v) := by
  rw [t_fetch_Store, Tree.ends_holds]
  obtain ⟨a0, a1⟩ := okI_u32 ok_a
  have hr := fun h => cell_range ok_m.core (a := a) (n := n) a0 (by omega) h
  simp only [Tree.holds_loop, Tree.holds_fork, Tree.holds_next, if_true, Tree.holds_cond, Tree.holds_letv, Tree.holds_leaf, Tree.holds_fail, decO, decA, decTup, decMach, decCore, decTrap, decInstr, decPart, decGuest, decConf, decEvent, decVcpu, decStep, bytesS, boolS, eventsS, intsS, guestsS, vcpusS, rowS, castL, Option.bind_some, Option.map_some, Option.some.injEq, Nat.beq_refl, beq_self_eq_true, Bool.and_self, cond_true, cond_false, eq_self, beq_iff_eq, beq_eq_false_iff_ne, bne_iff_ne, bne_eq_false_iff_eq, ne_eq, decide_eq_true_eq, decide_eq_false_iff_not, ble_true, ble_false, inRange_iff, inRange_false, Int.ofNat_eq_natCast, K.store]
  by_cases h : (K.cell m a n).2.cause = 0
  · have ht := cell_zero h
    have hi : K.inR m.mem.length (K.cell m a n).1 n = true := by have := hr h; simp only [K.inR, decide_eq_true_eq]; omega
    simp only [h, ht, hi, if_true]
    simp [hpre]
  · simp [h, hpre]
  
theorem c_fetch_Store : SpecOk EB_2 164 S_fetch_Store := spec_sig ok_fetch_Store (n := 60) fun ⟨m, a, n, v, ⟨⟩⟩ h hok => a_fetch_Store m a n v (of_decide_eq_true h) (ok_mach (okSL_head hok)) (ok_int (okSL_head (okSL_tail hok))) (ok_int (okSL_head (okSL_tail (okSL_tail hok)))) (ok_int (okSL_head (okSL_tail (okSL_tail (okSL_tail hok)))))
end

/-! exec_at -/

def S_exec_at : Spec := sig [.pstep] [.i .u32] (fun (s, _) => (s.x + s.i.imm % 4294967296) % 4294967296)
noncomputable def E_exec_at : Env := EB.adds []

theorem ok_exec_at : EnvOk E_exec_at := okEB.adds (l := _) trivial

theorem t_exec_at (s : PStep) : evF E_exec_at 60 162 (encArgs [.pstep] (s, ())) = 
 Tree.leaf (SV.v (Value.int IntKind.u32 (IntKind.wrap IntKind.u32 (s.x + (IntKind.wrap IntKind.u32 s.i.imm))))) := by kernel_rfl
section
attribute [local irreducible] evF evFL evFLs
theorem a_exec_at (s : PStep) (ok_s : okS (encA (.pstep) s)) : (evF E_exec_at 60 162 (encArgs [.pstep] (s, ()))).ends fun out_ => decO [.i .u32] out_ = some ((s.x + s.i.imm % 4294967296) % 4294967296) := by
  rw [t_exec_at, Tree.ends_holds]
  simp only [Tree.holds_loop, Tree.holds_fork, Tree.holds_next, if_true, Tree.holds_cond, Tree.holds_letv, Tree.holds_leaf, Tree.holds_fail, decO, decA, decTup, decMach, decCore, decTrap, decInstr, decPart, decGuest, decConf, decEvent, decVcpu, decStep, bytesS, boolS, eventsS, intsS, guestsS, vcpusS, rowS, castL, Option.bind_some, Option.map_some, Option.some.injEq, Nat.beq_refl, beq_self_eq_true, Bool.and_self, cond_true, cond_false, eq_self, wrap32]
  
theorem c_exec_at : SpecOk EB 162 S_exec_at := spec_sig ok_exec_at (n := 60) fun ⟨s, ⟨⟩⟩ h hok => a_exec_at s (okSL_head hok)
end

/-! exec_size -/

def S_exec_size : Spec := sig [.pstep] [.i .i64] (fun (s, _) => if s.i.op = 13 ∨ s.i.op = 14 then 1 else 4)
noncomputable def E_exec_size : Env := EB.adds []

theorem ok_exec_size : EnvOk E_exec_size := okEB.adds (l := _) trivial

theorem t_exec_size (s : PStep) : evF E_exec_size 60 163 (encArgs [.pstep] (s, ())) = 
 bif (BEq.beq s.i.op (13 : Int)) then
 (Tree.leaf (SV.v (Value.int IntKind.i64 (1 : Int))))
 else
 (bif (BEq.beq s.i.op (14 : Int)) then
 (Tree.leaf (SV.v (Value.int IntKind.i64 (1 : Int))))
 else
 (Tree.leaf (SV.v (Value.int IntKind.i64 (4 : Int))))) := by kernel_rfl
section
attribute [local irreducible] evF evFL evFLs
theorem a_exec_size (s : PStep) (ok_s : okS (encA (.pstep) s)) : (evF E_exec_size 60 163 (encArgs [.pstep] (s, ()))).ends fun out_ => decO [.i .i64] out_ = some (if s.i.op = 13 ∨ s.i.op = 14 then 1 else 4) := by
  rw [t_exec_size, Tree.ends_holds]
  simp only [Tree.holds_loop, Tree.holds_fork, Tree.holds_next, if_true, Tree.holds_cond, Tree.holds_letv, Tree.holds_leaf, Tree.holds_fail, decO, decA, decTup, decMach, decCore, decTrap, decInstr, decPart, decGuest, decConf, decEvent, decVcpu, decStep, bytesS, boolS, eventsS, intsS, guestsS, vcpusS, rowS, castL, Option.bind_some, Option.map_some, Option.some.injEq, Nat.beq_refl, beq_self_eq_true, Bool.and_self, cond_true, cond_false, eq_self, beq_iff_eq, beq_eq_false_iff_ne, bne_iff_ne, bne_eq_false_iff_eq, ne_eq, decide_eq_true_eq, decide_eq_false_iff_not, ble_true, ble_false, inRange_iff, inRange_false]
  repeat' (first | refine drop_ok ?_ | intro _ | with_reducible apply And.intro)
  all_goals first | (rw [if_pos (by omega)]; done) | (rw [if_neg (by omega)]; done)
  
theorem c_exec_size : SpecOk EB 163 S_exec_size := spec_sig ok_exec_size (n := 60) fun ⟨s, ⟨⟩⟩ h hok => a_exec_size s (okSL_head hok)
end

/-! exec_far -/

def S_exec_far : Spec := sig [.pstep] [.i .u32] (fun (s, _) => 4 * (s.i.imm % 4294967296) % 4294967296)
noncomputable def E_exec_far : Env := EB.adds []

theorem ok_exec_far : EnvOk E_exec_far := okEB.adds (l := _) trivial

theorem t_exec_far (s : PStep) : evF E_exec_far 60 166 (encArgs [.pstep] (s, ())) = 
 Tree.leaf (SV.v (Value.int IntKind.u32 (IntKind.wrap IntKind.u32 ((4 : Int) * (IntKind.wrap IntKind.u32 s.i.imm))))) := by kernel_rfl
section
attribute [local irreducible] evF evFL evFLs
theorem a_exec_far (s : PStep) (ok_s : okS (encA (.pstep) s)) : (evF E_exec_far 60 166 (encArgs [.pstep] (s, ()))).ends fun out_ => decO [.i .u32] out_ = some (4 * (s.i.imm % 4294967296) % 4294967296) := by
  rw [t_exec_far, Tree.ends_holds]
  simp only [Tree.holds_loop, Tree.holds_fork, Tree.holds_next, if_true, Tree.holds_cond, Tree.holds_letv, Tree.holds_leaf, Tree.holds_fail, decO, decA, decTup, decMach, decCore, decTrap, decInstr, decPart, decGuest, decConf, decEvent, decVcpu, decStep, bytesS, boolS, eventsS, intsS, guestsS, vcpusS, rowS, castL, Option.bind_some, Option.map_some, Option.some.injEq, Nat.beq_refl, beq_self_eq_true, Bool.and_self, cond_true, cond_false, eq_self, wrap32]
  
theorem c_exec_far : SpecOk EB 166 S_exec_far := spec_sig ok_exec_far (n := 60) fun ⟨s, ⟨⟩⟩ h hok => a_exec_far s (okSL_head hok)
end

/-! exec_Execute -/

def S_exec_Execute : Spec := sig [.mach, .instr] [.mach, .trap] (fun (m, i, _) => K.exec m i) (pre := fun (m, i, _) => decide (1 ≤ i.op ∧ i.op ≤ 20 ∧ m.mem.length ≤ 1099511627776))
noncomputable def E_exec_Execute : Env := EB_1_2.adds [(136, S_regs_Get), (138, S_regs_Set), (141, S_exec_Advance), (167, S_alu_Eval), (165, S_alu_BranchTaken), (153, S_fetch_Load), (164, S_fetch_Store), (149, S_isa_FormatOf), (162, S_exec_at), (163, S_exec_size), (166, S_exec_far)]

theorem ok_exec_Execute : EnvOk E_exec_Execute := okEB_1_2.adds (l := _) ⟨(up_to_1_2 c_regs_Get), (up_to_1_2 c_regs_Set), (up_to_1_2 c_exec_Advance), (up_to_1_2 c_alu_Eval), (up_to_1_2 c_alu_BranchTaken), (up_2_to_1_2 c_fetch_Load), (up_2_to_1_2 c_fetch_Store), (up_1_to_1_2 c_isa_FormatOf), (up_to_1_2 c_exec_at), (up_to_1_2 c_exec_size), (up_to_1_2 c_exec_far), trivial⟩

theorem t_exec_Execute (m : PMach) (i : PInstr) : evF E_exec_Execute 60 122 (encArgs [.mach, .instr] (m, i, ())) = 
 Tree.letv (okO [(AT.i IntKind.u32)]) (K.get m.core.regs i.ra) fun x0 =>
 (Tree.letv (okO [(AT.i IntKind.u32)]) (K.get m.core.regs i.rb) fun x1 =>
 (Tree.letv (okO [(AT.i IntKind.u32)]) (K.get m.core.regs i.rd) fun x2 =>
 (bif (BEq.beq i.op (9 : Int)) then
 (Tree.letv (okO [(AT.i IntKind.u32)]) ((x0 + (i.imm % (4294967296 : Int))) % (4294967296 : Int)) fun x3 =>
 (Tree.letv (okO [(AT.a IntKind.u32 16)]) (K.put m.core.regs i.rd x3) fun x4 =>
 (Tree.letv (okO [AT.core]) (PCore.mk x4 ((m.core.pc + (4 : Int)) % (4294967296 : Int)) m.core.csr) fun x5 =>
 (Tree.leaf (SV.tup [(SV.agg [(SV.arr IntKind.u32 16 x5.regs), (SV.v (Value.int IntKind.u32 x5.pc)), (SV.arr IntKind.u32 12 x5.csr), (SV.rd ETy.u8 m.mem), (SV.v (Value.int IntKind.u64 m.time)), (SV.rd ETy.u8 m.out), (SV.v (Value.bool m.halted))]), (SV.agg [(SV.v (Value.int IntKind.i64 (0 : Int))), (SV.v (Value.int IntKind.u32 (0 : Int)))])])))))
 else
 (bif (BEq.beq i.op (10 : Int)) then
 (Tree.letv (okO [(AT.a IntKind.u32 16)]) (K.put m.core.regs i.rd (IntKind.wrap IntKind.u32 ((IntKind.wrap IntKind.u32 i.imm) * (16384 : Int)))) fun x3 =>
 (Tree.letv (okO [AT.core]) (PCore.mk x3 ((m.core.pc + (4 : Int)) % (4294967296 : Int)) m.core.csr) fun x4 =>
 (Tree.leaf (SV.tup [(SV.agg [(SV.arr IntKind.u32 16 x4.regs), (SV.v (Value.int IntKind.u32 x4.pc)), (SV.arr IntKind.u32 12 x4.csr), (SV.rd ETy.u8 m.mem), (SV.v (Value.int IntKind.u64 m.time)), (SV.rd ETy.u8 m.out), (SV.v (Value.bool m.halted))]), (SV.agg [(SV.v (Value.int IntKind.i64 (0 : Int))), (SV.v (Value.int IntKind.u32 (0 : Int)))])]))))
 else
 (bif (BEq.beq i.op (11 : Int)) then
 (Tree.letv (okO [(AT.i IntKind.u32)]) ((x0 + (i.imm % (4294967296 : Int))) % (4294967296 : Int)) fun x3 =>
 (Tree.letv (okO [(AT.i IntKind.i64)]) (if (Or (i.op = (13 : Int)) (i.op = (14 : Int))) then (1 : Int) else (4 : Int)) fun x4 =>
 (bif (decide (Or (x4 = (1 : Int)) (x4 = (4 : Int)))) then
 (Tree.letv (okO [(AT.i IntKind.u32), AT.trap]) (K.load m x3 x4) fun x5 =>
 (bif (BEq.beq x5.snd.cause (0 : Int)) then
 (Tree.letv (okO [(AT.a IntKind.u32 16)]) (K.put m.core.regs i.rd x5.fst) fun x6 =>
 (Tree.letv (okO [AT.core]) (PCore.mk x6 ((m.core.pc + (4 : Int)) % (4294967296 : Int)) m.core.csr) fun x7 =>
 (Tree.leaf (SV.tup [(SV.agg [(SV.arr IntKind.u32 16 x7.regs), (SV.v (Value.int IntKind.u32 x7.pc)), (SV.arr IntKind.u32 12 x7.csr), (SV.rd ETy.u8 m.mem), (SV.v (Value.int IntKind.u64 m.time)), (SV.rd ETy.u8 m.out), (SV.v (Value.bool m.halted))]), (SV.agg [(SV.v (Value.int IntKind.i64 x5.snd.cause)), (SV.v (Value.int IntKind.u32 x5.snd.tval))])]))))
 else
 (Tree.leaf (SV.tup [(SV.agg [(SV.arr IntKind.u32 16 m.core.regs), (SV.v (Value.int IntKind.u32 m.core.pc)), (SV.arr IntKind.u32 12 m.core.csr), (SV.rd ETy.u8 m.mem), (SV.v (Value.int IntKind.u64 m.time)), (SV.rd ETy.u8 m.out), (SV.v (Value.bool m.halted))]), (SV.agg [(SV.v (Value.int IntKind.i64 x5.snd.cause)), (SV.v (Value.int IntKind.u32 x5.snd.tval))])]))))
 else
 (Tree.fail))))
 else
 (bif (BEq.beq i.op (13 : Int)) then
 (Tree.letv (okO [(AT.i IntKind.u32)]) ((x0 + (i.imm % (4294967296 : Int))) % (4294967296 : Int)) fun x3 =>
 (Tree.letv (okO [(AT.i IntKind.i64)]) (if (Or (i.op = (13 : Int)) (i.op = (14 : Int))) then (1 : Int) else (4 : Int)) fun x4 =>
 (bif (decide (Or (x4 = (1 : Int)) (x4 = (4 : Int)))) then
 (Tree.letv (okO [(AT.i IntKind.u32), AT.trap]) (K.load m x3 x4) fun x5 =>
 (bif (BEq.beq x5.snd.cause (0 : Int)) then
 (Tree.letv (okO [(AT.a IntKind.u32 16)]) (K.put m.core.regs i.rd x5.fst) fun x6 =>
 (Tree.letv (okO [AT.core]) (PCore.mk x6 ((m.core.pc + (4 : Int)) % (4294967296 : Int)) m.core.csr) fun x7 =>
 (Tree.leaf (SV.tup [(SV.agg [(SV.arr IntKind.u32 16 x7.regs), (SV.v (Value.int IntKind.u32 x7.pc)), (SV.arr IntKind.u32 12 x7.csr), (SV.rd ETy.u8 m.mem), (SV.v (Value.int IntKind.u64 m.time)), (SV.rd ETy.u8 m.out), (SV.v (Value.bool m.halted))]), (SV.agg [(SV.v (Value.int IntKind.i64 x5.snd.cause)), (SV.v (Value.int IntKind.u32 x5.snd.tval))])]))))
 else
 (Tree.leaf (SV.tup [(SV.agg [(SV.arr IntKind.u32 16 m.core.regs), (SV.v (Value.int IntKind.u32 m.core.pc)), (SV.arr IntKind.u32 12 m.core.csr), (SV.rd ETy.u8 m.mem), (SV.v (Value.int IntKind.u64 m.time)), (SV.rd ETy.u8 m.out), (SV.v (Value.bool m.halted))]), (SV.agg [(SV.v (Value.int IntKind.i64 x5.snd.cause)), (SV.v (Value.int IntKind.u32 x5.snd.tval))])]))))
 else
 (Tree.fail))))
 else
 (bif (BEq.beq i.op (12 : Int)) then
 (Tree.letv (okO [(AT.i IntKind.u32)]) ((x0 + (i.imm % (4294967296 : Int))) % (4294967296 : Int)) fun x3 =>
 (Tree.letv (okO [(AT.i IntKind.i64)]) (if (Or (i.op = (13 : Int)) (i.op = (14 : Int))) then (1 : Int) else (4 : Int)) fun x4 =>
 (bif (decide (And (Or (x4 = (1 : Int)) (x4 = (4 : Int))) ((List.length m.mem) ≤ 1099511627776))) then
 (Tree.letv (okO [AT.mach, AT.trap]) (K.store m x3 x4 x2) fun x5 =>
 (bif (BEq.beq x5.snd.cause (0 : Int)) then
 (Tree.letv (okO [AT.core]) (PCore.mk x5.fst.core.regs ((x5.fst.core.pc + (4 : Int)) % (4294967296 : Int)) x5.fst.core.csr) fun x6 =>
 (Tree.leaf (SV.tup [(SV.agg [(SV.arr IntKind.u32 16 x6.regs), (SV.v (Value.int IntKind.u32 x6.pc)), (SV.arr IntKind.u32 12 x6.csr), (SV.rd ETy.u8 x5.fst.mem), (SV.v (Value.int IntKind.u64 x5.fst.time)), (SV.rd ETy.u8 x5.fst.out), (SV.v (Value.bool x5.fst.halted))]), (SV.agg [(SV.v (Value.int IntKind.i64 x5.snd.cause)), (SV.v (Value.int IntKind.u32 x5.snd.tval))])])))
 else
 (Tree.leaf (SV.tup [(SV.agg [(SV.arr IntKind.u32 16 m.core.regs), (SV.v (Value.int IntKind.u32 m.core.pc)), (SV.arr IntKind.u32 12 m.core.csr), (SV.rd ETy.u8 m.mem), (SV.v (Value.int IntKind.u64 m.time)), (SV.rd ETy.u8 m.out), (SV.v (Value.bool m.halted))]), (SV.agg [(SV.v (Value.int IntKind.i64 x5.snd.cause)), (SV.v (Value.int IntKind.u32 x5.snd.tval))])]))))
 else
 (Tree.fail))))
 else
 (bif (BEq.beq i.op (14 : Int)) then
 (Tree.letv (okO [(AT.i IntKind.u32)]) ((x0 + (i.imm % (4294967296 : Int))) % (4294967296 : Int)) fun x3 =>
 (Tree.letv (okO [(AT.i IntKind.i64)]) (if (Or (i.op = (13 : Int)) (i.op = (14 : Int))) then (1 : Int) else (4 : Int)) fun x4 =>
 (bif (decide (And (Or (x4 = (1 : Int)) (x4 = (4 : Int))) ((List.length m.mem) ≤ 1099511627776))) then
 (Tree.letv (okO [AT.mach, AT.trap]) (K.store m x3 x4 x2) fun x5 =>
 (bif (BEq.beq x5.snd.cause (0 : Int)) then
 (Tree.letv (okO [AT.core]) (PCore.mk x5.fst.core.regs ((x5.fst.core.pc + (4 : Int)) % (4294967296 : Int)) x5.fst.core.csr) fun x6 =>
 (Tree.leaf (SV.tup [(SV.agg [(SV.arr IntKind.u32 16 x6.regs), (SV.v (Value.int IntKind.u32 x6.pc)), (SV.arr IntKind.u32 12 x6.csr), (SV.rd ETy.u8 x5.fst.mem), (SV.v (Value.int IntKind.u64 x5.fst.time)), (SV.rd ETy.u8 x5.fst.out), (SV.v (Value.bool x5.fst.halted))]), (SV.agg [(SV.v (Value.int IntKind.i64 x5.snd.cause)), (SV.v (Value.int IntKind.u32 x5.snd.tval))])])))
 else
 (Tree.leaf (SV.tup [(SV.agg [(SV.arr IntKind.u32 16 m.core.regs), (SV.v (Value.int IntKind.u32 m.core.pc)), (SV.arr IntKind.u32 12 m.core.csr), (SV.rd ETy.u8 m.mem), (SV.v (Value.int IntKind.u64 m.time)), (SV.rd ETy.u8 m.out), (SV.v (Value.bool m.halted))]), (SV.agg [(SV.v (Value.int IntKind.i64 x5.snd.cause)), (SV.v (Value.int IntKind.u32 x5.snd.tval))])]))))
 else
 (Tree.fail))))
 else
 (bif (BEq.beq i.op (15 : Int)) then
 (Tree.letv (okO [AT.b]) (K.taken i.op x2 x0) fun x3 =>
 (bif x3 then
 (Tree.letv (okO [(AT.i IntKind.u32)]) (((4 : Int) * (i.imm % (4294967296 : Int))) % (4294967296 : Int)) fun x4 =>
 (Tree.letv (okO [AT.core]) (PCore.mk m.core.regs ((m.core.pc + x4) % (4294967296 : Int)) m.core.csr) fun x5 =>
 (Tree.leaf (SV.tup [(SV.agg [(SV.arr IntKind.u32 16 x5.regs), (SV.v (Value.int IntKind.u32 x5.pc)), (SV.arr IntKind.u32 12 x5.csr), (SV.rd ETy.u8 m.mem), (SV.v (Value.int IntKind.u64 m.time)), (SV.rd ETy.u8 m.out), (SV.v (Value.bool m.halted))]), (SV.agg [(SV.v (Value.int IntKind.i64 (0 : Int))), (SV.v (Value.int IntKind.u32 (0 : Int)))])]))))
 else
 (Tree.letv (okO [AT.core]) (PCore.mk m.core.regs ((m.core.pc + (4 : Int)) % (4294967296 : Int)) m.core.csr) fun x4 =>
 (Tree.leaf (SV.tup [(SV.agg [(SV.arr IntKind.u32 16 x4.regs), (SV.v (Value.int IntKind.u32 x4.pc)), (SV.arr IntKind.u32 12 x4.csr), (SV.rd ETy.u8 m.mem), (SV.v (Value.int IntKind.u64 m.time)), (SV.rd ETy.u8 m.out), (SV.v (Value.bool m.halted))]), (SV.agg [(SV.v (Value.int IntKind.i64 (0 : Int))), (SV.v (Value.int IntKind.u32 (0 : Int)))])])))))
 else
 (bif (BEq.beq i.op (16 : Int)) then
 (Tree.letv (okO [AT.b]) (K.taken i.op x2 x0) fun x3 =>
 (bif x3 then
 (Tree.letv (okO [(AT.i IntKind.u32)]) (((4 : Int) * (i.imm % (4294967296 : Int))) % (4294967296 : Int)) fun x4 =>
 (Tree.letv (okO [AT.core]) (PCore.mk m.core.regs ((m.core.pc + x4) % (4294967296 : Int)) m.core.csr) fun x5 =>
 (Tree.leaf (SV.tup [(SV.agg [(SV.arr IntKind.u32 16 x5.regs), (SV.v (Value.int IntKind.u32 x5.pc)), (SV.arr IntKind.u32 12 x5.csr), (SV.rd ETy.u8 m.mem), (SV.v (Value.int IntKind.u64 m.time)), (SV.rd ETy.u8 m.out), (SV.v (Value.bool m.halted))]), (SV.agg [(SV.v (Value.int IntKind.i64 (0 : Int))), (SV.v (Value.int IntKind.u32 (0 : Int)))])]))))
 else
 (Tree.letv (okO [AT.core]) (PCore.mk m.core.regs ((m.core.pc + (4 : Int)) % (4294967296 : Int)) m.core.csr) fun x4 =>
 (Tree.leaf (SV.tup [(SV.agg [(SV.arr IntKind.u32 16 x4.regs), (SV.v (Value.int IntKind.u32 x4.pc)), (SV.arr IntKind.u32 12 x4.csr), (SV.rd ETy.u8 m.mem), (SV.v (Value.int IntKind.u64 m.time)), (SV.rd ETy.u8 m.out), (SV.v (Value.bool m.halted))]), (SV.agg [(SV.v (Value.int IntKind.i64 (0 : Int))), (SV.v (Value.int IntKind.u32 (0 : Int)))])])))))
 else
 (bif (BEq.beq i.op (17 : Int)) then
 (Tree.letv (okO [AT.b]) (K.taken i.op x2 x0) fun x3 =>
 (bif x3 then
 (Tree.letv (okO [(AT.i IntKind.u32)]) (((4 : Int) * (i.imm % (4294967296 : Int))) % (4294967296 : Int)) fun x4 =>
 (Tree.letv (okO [AT.core]) (PCore.mk m.core.regs ((m.core.pc + x4) % (4294967296 : Int)) m.core.csr) fun x5 =>
 (Tree.leaf (SV.tup [(SV.agg [(SV.arr IntKind.u32 16 x5.regs), (SV.v (Value.int IntKind.u32 x5.pc)), (SV.arr IntKind.u32 12 x5.csr), (SV.rd ETy.u8 m.mem), (SV.v (Value.int IntKind.u64 m.time)), (SV.rd ETy.u8 m.out), (SV.v (Value.bool m.halted))]), (SV.agg [(SV.v (Value.int IntKind.i64 (0 : Int))), (SV.v (Value.int IntKind.u32 (0 : Int)))])]))))
 else
 (Tree.letv (okO [AT.core]) (PCore.mk m.core.regs ((m.core.pc + (4 : Int)) % (4294967296 : Int)) m.core.csr) fun x4 =>
 (Tree.leaf (SV.tup [(SV.agg [(SV.arr IntKind.u32 16 x4.regs), (SV.v (Value.int IntKind.u32 x4.pc)), (SV.arr IntKind.u32 12 x4.csr), (SV.rd ETy.u8 m.mem), (SV.v (Value.int IntKind.u64 m.time)), (SV.rd ETy.u8 m.out), (SV.v (Value.bool m.halted))]), (SV.agg [(SV.v (Value.int IntKind.i64 (0 : Int))), (SV.v (Value.int IntKind.u32 (0 : Int)))])])))))
 else
 (bif (BEq.beq i.op (18 : Int)) then
 (Tree.letv (okO [(AT.i IntKind.u32)]) (((4 : Int) * (i.imm % (4294967296 : Int))) % (4294967296 : Int)) fun x3 =>
 (bif (BEq.beq i.op (19 : Int)) then
 (Tree.letv (okO [(AT.i IntKind.u32)]) ((x0 + (i.imm % (4294967296 : Int))) % (4294967296 : Int)) fun x4 =>
 (Tree.letv (okO [(AT.a IntKind.u32 16)]) (K.put m.core.regs i.rd (IntKind.wrap IntKind.u32 (m.core.pc + (4 : Int)))) fun x5 =>
 (Tree.letv (okO [AT.core]) (PCore.mk x5 ((m.core.pc + (4 : Int)) % (4294967296 : Int)) m.core.csr) fun x6 =>
 (Tree.leaf (SV.tup [(SV.agg [(SV.arr IntKind.u32 16 x6.regs), (SV.v (Value.int IntKind.u32 x4)), (SV.arr IntKind.u32 12 x6.csr), (SV.rd ETy.u8 m.mem), (SV.v (Value.int IntKind.u64 m.time)), (SV.rd ETy.u8 m.out), (SV.v (Value.bool m.halted))]), (SV.agg [(SV.v (Value.int IntKind.i64 (0 : Int))), (SV.v (Value.int IntKind.u32 (0 : Int)))])])))))
 else
 (Tree.letv (okO [(AT.a IntKind.u32 16)]) (K.put m.core.regs i.rd (IntKind.wrap IntKind.u32 (m.core.pc + (4 : Int)))) fun x4 =>
 (Tree.letv (okO [AT.core]) (PCore.mk x4 ((m.core.pc + (4 : Int)) % (4294967296 : Int)) m.core.csr) fun x5 =>
 (Tree.leaf (SV.tup [(SV.agg [(SV.arr IntKind.u32 16 x5.regs), (SV.v (Value.int IntKind.u32 (IntKind.wrap IntKind.u32 (m.core.pc + x3)))), (SV.arr IntKind.u32 12 x5.csr), (SV.rd ETy.u8 m.mem), (SV.v (Value.int IntKind.u64 m.time)), (SV.rd ETy.u8 m.out), (SV.v (Value.bool m.halted))]), (SV.agg [(SV.v (Value.int IntKind.i64 (0 : Int))), (SV.v (Value.int IntKind.u32 (0 : Int)))])]))))))
 else
 (bif (BEq.beq i.op (19 : Int)) then
 (Tree.letv (okO [(AT.i IntKind.u32)]) (((4 : Int) * (i.imm % (4294967296 : Int))) % (4294967296 : Int)) fun x3 =>
 (bif (BEq.beq i.op (19 : Int)) then
 (Tree.letv (okO [(AT.i IntKind.u32)]) ((x0 + (i.imm % (4294967296 : Int))) % (4294967296 : Int)) fun x4 =>
 (Tree.letv (okO [(AT.a IntKind.u32 16)]) (K.put m.core.regs i.rd (IntKind.wrap IntKind.u32 (m.core.pc + (4 : Int)))) fun x5 =>
 (Tree.letv (okO [AT.core]) (PCore.mk x5 ((m.core.pc + (4 : Int)) % (4294967296 : Int)) m.core.csr) fun x6 =>
 (Tree.leaf (SV.tup [(SV.agg [(SV.arr IntKind.u32 16 x6.regs), (SV.v (Value.int IntKind.u32 x4)), (SV.arr IntKind.u32 12 x6.csr), (SV.rd ETy.u8 m.mem), (SV.v (Value.int IntKind.u64 m.time)), (SV.rd ETy.u8 m.out), (SV.v (Value.bool m.halted))]), (SV.agg [(SV.v (Value.int IntKind.i64 (0 : Int))), (SV.v (Value.int IntKind.u32 (0 : Int)))])])))))
 else
 (Tree.letv (okO [(AT.a IntKind.u32 16)]) (K.put m.core.regs i.rd (IntKind.wrap IntKind.u32 (m.core.pc + (4 : Int)))) fun x4 =>
 (Tree.letv (okO [AT.core]) (PCore.mk x4 ((m.core.pc + (4 : Int)) % (4294967296 : Int)) m.core.csr) fun x5 =>
 (Tree.leaf (SV.tup [(SV.agg [(SV.arr IntKind.u32 16 x5.regs), (SV.v (Value.int IntKind.u32 (IntKind.wrap IntKind.u32 (m.core.pc + x3)))), (SV.arr IntKind.u32 12 x5.csr), (SV.rd ETy.u8 m.mem), (SV.v (Value.int IntKind.u64 m.time)), (SV.rd ETy.u8 m.out), (SV.v (Value.bool m.halted))]), (SV.agg [(SV.v (Value.int IntKind.i64 (0 : Int))), (SV.v (Value.int IntKind.u32 (0 : Int)))])]))))))
 else
 (bif (BEq.beq i.op (20 : Int)) then
 (Tree.leaf (SV.tup [(SV.agg [(SV.arr IntKind.u32 16 m.core.regs), (SV.v (Value.int IntKind.u32 m.core.pc)), (SV.arr IntKind.u32 12 m.core.csr), (SV.rd ETy.u8 m.mem), (SV.v (Value.int IntKind.u64 m.time)), (SV.rd ETy.u8 m.out), (SV.v (Value.bool m.halted))]), (SV.agg [(SV.v (Value.int IntKind.i64 (5 : Int))), (SV.v (Value.int IntKind.u32 (0 : Int)))])]))
 else
 (Tree.letv (okO [(AT.i IntKind.i64)]) (K.form i.op) fun x3 =>
 (bif (BEq.beq x3 (1 : Int)) then
 (Tree.letv (okO [(AT.i IntKind.u32)]) (K.alu i.op x0 x1) fun x4 =>
 (Tree.letv (okO [(AT.a IntKind.u32 16)]) (K.put m.core.regs i.rd x4) fun x5 =>
 (Tree.letv (okO [AT.core]) (PCore.mk x5 ((m.core.pc + (4 : Int)) % (4294967296 : Int)) m.core.csr) fun x6 =>
 (Tree.leaf (SV.tup [(SV.agg [(SV.arr IntKind.u32 16 x6.regs), (SV.v (Value.int IntKind.u32 x6.pc)), (SV.arr IntKind.u32 12 x6.csr), (SV.rd ETy.u8 m.mem), (SV.v (Value.int IntKind.u64 m.time)), (SV.rd ETy.u8 m.out), (SV.v (Value.bool m.halted))]), (SV.agg [(SV.v (Value.int IntKind.i64 (0 : Int))), (SV.v (Value.int IntKind.u32 (0 : Int)))])])))))
 else
 (Tree.leaf (SV.tup [(SV.agg [(SV.arr IntKind.u32 16 m.core.regs), (SV.v (Value.int IntKind.u32 m.core.pc)), (SV.arr IntKind.u32 12 m.core.csr), (SV.rd ETy.u8 m.mem), (SV.v (Value.int IntKind.u64 m.time)), (SV.rd ETy.u8 m.out), (SV.v (Value.bool m.halted))]), (SV.agg [(SV.v (Value.int IntKind.i64 (0 : Int))), (SV.v (Value.int IntKind.u32 (0 : Int)))])])))))))))))))))))) := by kernel_rfl
section
attribute [local irreducible] evF evFL evFLs
theorem a_exec_Execute (m : PMach) (i : PInstr) (hpre : 1 ≤ i.op ∧ i.op ≤ 20 ∧ m.mem.length ≤ 1099511627776) (ok_m : okMach m) (ok_i : okInstr i) : (evF E_exec_Execute 60 122 (encArgs [.mach, .instr] (m, i, ()))).ends fun out_ => decO [.mach, .trap] out_ = some (K.exec m i) := by
  rw [t_exec_Execute, Tree.ends_holds]
  obtain ⟨im0, im1⟩ := okI_i32 ok_i.imm
  have hpre1 := hpre.1
  have hpre2 := hpre.2.1
  simp only [Tree.holds_loop, Tree.holds_fork, Tree.holds_next, if_true, Tree.holds_cond, Tree.holds_letv, Tree.holds_leaf, Tree.holds_fail, decO, decA, decTup, decMach, decCore, decTrap, decInstr, decPart, decGuest, decConf, decEvent, decVcpu, decStep, bytesS, boolS, eventsS, intsS, guestsS, vcpusS, rowS, castL, Option.bind_some, Option.map_some, Option.some.injEq, Nat.beq_refl, beq_self_eq_true, Bool.and_self, cond_true, cond_false, eq_self, beq_iff_eq, beq_eq_false_iff_ne, bne_iff_ne, bne_eq_false_iff_eq, ne_eq, decide_eq_true_eq, decide_eq_false_iff_not, ble_true, ble_false, inRange_iff, inRange_false, wrap32]
  have e0 : (K.get m.core.regs i.ra + i.imm % 4294967296) % 4294967296 = K.ea m i := rfl
  have e1 : 4 * (i.imm % 4294967296) % 4294967296 = K.far i := by unfold K.far; omega
  have x1 : 1 ≤ i.op → i.op ≤ 8 → K.exec m i = _ := fun a b => by unfold K.exec; rw [if_pos ⟨a, b⟩]
  have x9 : i.op = 9 → K.exec m i = _ := fun a => by unfold K.exec; rw [if_neg (by omega), if_pos a]
  have x10 : i.op = 10 → K.exec m i = _ := fun a => by unfold K.exec; rw [if_neg (by omega), if_neg (by omega), if_pos a]
  have x11 : i.op = 11 ∨ i.op = 13 → K.exec m i = _ := fun a => by unfold K.exec; rw [if_neg (by omega), if_neg (by omega), if_neg (by omega), if_pos a]
  have x12 : i.op = 12 ∨ i.op = 14 → K.exec m i = _ := fun a => by unfold K.exec; rw [if_neg (by omega), if_neg (by omega), if_neg (by omega), if_neg (by omega), if_pos a]
  have x15 : 15 ≤ i.op → i.op ≤ 17 → K.exec m i = _ := fun a b => by unfold K.exec; rw [if_neg (by omega), if_neg (by omega), if_neg (by omega), if_neg (by omega), if_neg (by omega), if_pos ⟨a, b⟩]
  have x18 : i.op = 18 → K.exec m i = _ := fun a => by unfold K.exec; rw [if_neg (by omega), if_neg (by omega), if_neg (by omega), if_neg (by omega), if_neg (by omega), if_neg (by omega), if_pos a]
  have x19 : i.op = 19 → K.exec m i = _ := fun a => by unfold K.exec; rw [if_neg (by omega), if_neg (by omega), if_neg (by omega), if_neg (by omega), if_neg (by omega), if_neg (by omega), if_neg (by omega), if_pos a]
  have x20 : i.op = 20 → K.exec m i = (m, ⟨5, 0⟩) := fun a => by unfold K.exec; rw [if_neg (by omega), if_neg (by omega), if_neg (by omega), if_neg (by omega), if_neg (by omega), if_neg (by omega), if_neg (by omega), if_neg (by omega)]
  have hform : K.form i.op = 1 → i.op ≤ 8 := fun h => by unfold K.form at h; (repeat' split at h) <;> omega
  have hform2 : ¬ K.form i.op = 1 → 8 < i.op := fun h => by
    unfold K.form at h
    by_cases q : i.op ≤ 8
    · rw [if_pos ⟨hpre1, q⟩] at h; exact absurd rfl h
    · omega
  simp only [e0, e1]
  clear ok_m ok_i im0 im1
  have lz := fun a n => load_zero (m := m) (a := a) (n := n)
  have sz := fun a n v => store_zero (m := m) (a := a) (n := n) (v := v)
  have ss := fun a n v => store_same (m := m) (a := a) (n := n) (v := v)
  repeat' (first | refine drop_ok ?_ | intro _ | with_reducible apply And.intro)
  all_goals try omega
  all_goals try (rw [x9 (by assumption)]; rfl)
  all_goals try (rw [x10 (by assumption)]; rfl)
  all_goals try (rw [x18 (by assumption)]; rfl)
  all_goals try (rw [x19 (by assumption)]; rfl)
  all_goals try (rw [x20 (by assumption)])
  all_goals try (rw [x1 hpre1 (hform (by assumption))]; rfl)
  all_goals try (
    have q : i.op = 11 := by assumption
    have n1 : (if i.op = 13 ∨ i.op = 14 then (1 : Int) else 4) = 4 := if_neg (by omega)
    have n2 : (if i.op = 13 then (1 : Int) else 4) = 4 := if_neg (by omega)
    rw [x11 (.inl q)]
    simp only [n1, n2] at *
    first
      | (have c : (K.load m (K.ea m i) 4).2.cause = 0 := by assumption
         rw [if_pos c]; simp only [c, lz _ _ c]; rfl)
      | (rw [if_neg (show ¬ (K.load m (K.ea m i) 4).2.cause = 0 by assumption)]; first | done | rfl))
  all_goals try (
    have q : i.op = 13 := by assumption
    have n1 : (if i.op = 13 ∨ i.op = 14 then (1 : Int) else 4) = 1 := if_pos (by omega)
    have n2 : (if i.op = 13 then (1 : Int) else 4) = 1 := if_pos (by omega)
    rw [x11 (.inr q)]
    simp only [n1, n2] at *
    first
      | (have c : (K.load m (K.ea m i) 1).2.cause = 0 := by assumption
         rw [if_pos c]; simp only [c, lz _ _ c]; rfl)
      | (rw [if_neg (show ¬ (K.load m (K.ea m i) 1).2.cause = 0 by assumption)]; first | done | rfl))
  all_goals try (
    have q : i.op = 12 := by assumption
    have n1 : (if i.op = 13 ∨ i.op = 14 then (1 : Int) else 4) = 4 := if_neg (by omega)
    have n2 : (if i.op = 14 then (1 : Int) else 4) = 4 := if_neg (by omega)
    rw [x12 (.inl q)]
    simp only [n1, n2] at *
    first
      | (have c : (K.store m (K.ea m i) 4 (K.get m.core.regs i.rd)).2.cause = 0 := by assumption
         obtain ⟨s1, s2, s3, s4⟩ := ss (K.ea m i) 4 (K.get m.core.regs i.rd)
         rw [if_pos c]; simp only [c, sz _ _ _ c, s1]; simp only [K.wpc, s1])
      | (rw [if_neg (show ¬ (K.store m (K.ea m i) 4 (K.get m.core.regs i.rd)).2.cause = 0 by assumption)]; first | done | rfl))
  all_goals try (
    have q : i.op = 14 := by assumption
    have n1 : (if i.op = 13 ∨ i.op = 14 then (1 : Int) else 4) = 1 := if_pos (by omega)
    have n2 : (if i.op = 14 then (1 : Int) else 4) = 1 := if_pos (by omega)
    rw [x12 (.inr q)]
    simp only [n1, n2] at *
    first
      | (have c : (K.store m (K.ea m i) 1 (K.get m.core.regs i.rd)).2.cause = 0 := by assumption
         obtain ⟨s1, s2, s3, s4⟩ := ss (K.ea m i) 1 (K.get m.core.regs i.rd)
         rw [if_pos c]; simp only [c, sz _ _ _ c, s1]; simp only [K.wpc, s1])
      | (rw [if_neg (show ¬ (K.store m (K.ea m i) 1 (K.get m.core.regs i.rd)).2.cause = 0 by assumption)]; first | done | rfl))
  all_goals try (rw [x15 (by omega) (by omega), if_pos (by assumption)]; rfl)
  all_goals try (rw [x15 (by omega) (by omega), if_neg (by rw [show K.taken i.op (K.get m.core.regs i.rd) (K.get m.core.regs i.ra) = false by assumption]; decide)]; rfl)
  all_goals try (have := hform2 (by assumption); omega)
  all_goals try (exfalso; rename_i q; apply q; split <;> simp; done)
  all_goals try (exfalso; rename_i q; apply q; refine ⟨?_, hpre.2.2⟩; split <;> simp; done)
  
theorem c_exec_Execute : SpecOk EB_1_2 122 S_exec_Execute := spec_sig ok_exec_Execute (n := 60) fun ⟨m, i, ⟨⟩⟩ h hok => a_exec_Execute m i (of_decide_eq_true h) (ok_mach (okSL_head hok)) (ok_instr (okSL_head (okSL_tail hok)))
end

/-! step_StepNoTimer -/

def S_step_StepNoTimer : Spec := sig [.mach] [.mach, .trap] (fun (m, _) => K.plain m) (pre := fun (m, _) => decide (m.mem.length ≤ 1099511627776 ∧ m.out.length ≤ 1099511627776))
noncomputable def E_step_StepNoTimer : Env := EB_0_1_2.adds [(119, S_step_Current), (95, S_step_end), (120, S_isa_IsPrivileged), (121, S_priv_Execute), (122, S_exec_Execute)]

theorem ok_step_StepNoTimer : EnvOk E_step_StepNoTimer := okEB_0_1_2.adds (l := _) ⟨c_step_Current, (up_to_0_1_2 c_step_end), (up_to_0_1_2 c_isa_IsPrivileged), (up_to_0_1_2 c_priv_Execute), (up_1_2_to_0_1_2 c_exec_Execute), trivial⟩

theorem t_step_StepNoTimer (m : PMach) : evF E_step_StepNoTimer 60 96 (encArgs [.mach] (m, ())) = 
 bif m.halted then
 (Tree.leaf (SV.tup [(SV.agg [(SV.arr IntKind.u32 16 m.core.regs), (SV.v (Value.int IntKind.u32 m.core.pc)), (SV.arr IntKind.u32 12 m.core.csr), (SV.rd ETy.u8 m.mem), (SV.v (Value.int IntKind.u64 m.time)), (SV.rd ETy.u8 m.out), (SV.v (Value.bool m.halted))]), (SV.agg [(SV.v (Value.int IntKind.i64 (0 : Int))), (SV.v (Value.int IntKind.u32 (0 : Int)))])]))
 else
 (Tree.letv (okO [AT.instr, AT.trap]) (K.cur m) fun x0 =>
 (bif (bne x0.snd.cause (0 : Int)) then
 (Tree.letv (okO [AT.mach, AT.trap]) (K.endS m x0.snd) fun x1 =>
 (Tree.leaf (SV.tup [(SV.agg [(SV.arr IntKind.u32 16 x1.fst.core.regs), (SV.v (Value.int IntKind.u32 x1.fst.core.pc)), (SV.arr IntKind.u32 12 x1.fst.core.csr), (SV.rd ETy.u8 x1.fst.mem), (SV.v (Value.int IntKind.u64 x1.fst.time)), (SV.rd ETy.u8 x1.fst.out), (SV.v (Value.bool x1.fst.halted))]), (SV.agg [(SV.v (Value.int IntKind.i64 x1.snd.cause)), (SV.v (Value.int IntKind.u32 x1.snd.tval))])])))
 else
 (Tree.letv (okO [AT.b]) (K.privd x0.fst.op) fun x1 =>
 (bif x1 then
 (bif (decide ((List.length m.out) ≤ 1099511627776)) then
 (Tree.letv (okO [AT.mach]) (K.priv m x0.fst) fun x2 =>
 (Tree.letv (okO [AT.mach, AT.trap]) (K.endS x2 x0.snd) fun x3 =>
 (Tree.leaf (SV.tup [(SV.agg [(SV.arr IntKind.u32 16 x3.fst.core.regs), (SV.v (Value.int IntKind.u32 x3.fst.core.pc)), (SV.arr IntKind.u32 12 x3.fst.core.csr), (SV.rd ETy.u8 x3.fst.mem), (SV.v (Value.int IntKind.u64 x3.fst.time)), (SV.rd ETy.u8 x3.fst.out), (SV.v (Value.bool x3.fst.halted))]), (SV.agg [(SV.v (Value.int IntKind.i64 x3.snd.cause)), (SV.v (Value.int IntKind.u32 x3.snd.tval))])]))))
 else
 (Tree.fail))
 else
 (bif (decide (And ((1 : Int) ≤ x0.fst.op) (And (x0.fst.op ≤ (20 : Int)) ((List.length m.mem) ≤ 1099511627776)))) then
 (Tree.letv (okO [AT.mach, AT.trap]) (K.exec m x0.fst) fun x2 =>
 (Tree.letv (okO [AT.mach, AT.trap]) (K.endS x2.fst x2.snd) fun x3 =>
 (Tree.leaf (SV.tup [(SV.agg [(SV.arr IntKind.u32 16 x3.fst.core.regs), (SV.v (Value.int IntKind.u32 x3.fst.core.pc)), (SV.arr IntKind.u32 12 x3.fst.core.csr), (SV.rd ETy.u8 x3.fst.mem), (SV.v (Value.int IntKind.u64 x3.fst.time)), (SV.rd ETy.u8 x3.fst.out), (SV.v (Value.bool x3.fst.halted))]), (SV.agg [(SV.v (Value.int IntKind.i64 x3.snd.cause)), (SV.v (Value.int IntKind.u32 x3.snd.tval))])]))))
 else
 (Tree.fail)))))) := by kernel_rfl
section
attribute [local irreducible] evF evFL evFLs
theorem a_step_StepNoTimer (m : PMach) (hpre : m.mem.length ≤ 1099511627776 ∧ m.out.length ≤ 1099511627776) (ok_m : okMach m) : (evF E_step_StepNoTimer 60 96 (encArgs [.mach] (m, ()))).ends fun out_ => decO [.mach, .trap] out_ = some (K.plain m) := by
  rw [t_step_StepNoTimer, Tree.ends_holds]
  have hmay := fun h => cur_may (m := m) h
  have hz := fun h => cur_zero (m := m) h
  simp only [Tree.holds_loop, Tree.holds_fork, Tree.holds_next, if_true, Tree.holds_cond, Tree.holds_letv, Tree.holds_leaf, Tree.holds_fail, decO, decA, decTup, decMach, decCore, decTrap, decInstr, decPart, decGuest, decConf, decEvent, decVcpu, decStep, bytesS, boolS, eventsS, intsS, guestsS, vcpusS, rowS, castL, Option.bind_some, Option.map_some, Option.some.injEq, Nat.beq_refl, beq_self_eq_true, Bool.and_self, cond_true, cond_false, eq_self, beq_iff_eq, beq_eq_false_iff_ne, bne_iff_ne, bne_eq_false_iff_eq, ne_eq, decide_eq_true_eq, decide_eq_false_iff_not, ble_true, ble_false, inRange_iff, inRange_false]
  unfold K.plain
  repeat' (first | refine drop_ok ?_ | intro _ | with_reducible apply And.intro)
  · rename_i h; rw [if_pos h]
  · rename_i h c; rw [if_neg (by rw [h]; decide), if_pos c]
  · rename_i h c p _; rw [if_neg (by rw [h]; decide), if_neg (by simp [c]), if_pos p, hz c]
  · omega
  · rename_i h c p _; rw [if_neg (by rw [h]; decide), if_neg (by simp [c]), if_neg (by rw [p]; decide)]
  · rename_i h c p q
    have hm := (hmay c).op
    apply q
    refine ⟨hm.1, ?_, hpre.1⟩
    have : ¬ (21 ≤ (K.cur m).1.op ∧ (K.cur m).1.op ≤ 25) := fun z => by rw [privd_range.2 z] at p; cases p
    omega
  
theorem c_step_StepNoTimer : SpecOk EB_0_1_2 96 S_step_StepNoTimer := spec_sig ok_step_StepNoTimer (n := 60) fun ⟨m, ⟨⟩⟩ h hok => a_step_StepNoTimer m (of_decide_eq_true h) (ok_mach (okSL_head hok))
end

/-! step_Step -/

def S_step_Step : Spec := sig [.mach] [.mach, .trap] (fun (m, _) => K.step m) (pre := fun (m, _) => decide (m.mem.length ≤ 1099511627776 ∧ m.out.length ≤ 1099511627776))
noncomputable def E_step_Step : Env := EB_0_1_2.adds [(94, S_fetch_TimerPending), (95, S_step_end), (96, S_step_StepNoTimer)]

theorem ok_step_Step : EnvOk E_step_Step := okEB_0_1_2.adds (l := _) ⟨(up_to_0_1_2 c_fetch_TimerPending), (up_to_0_1_2 c_step_end), c_step_StepNoTimer, trivial⟩

theorem t_step_Step (m : PMach) : evF E_step_Step 60 56 (encArgs [.mach] (m, ())) = 
 bif m.halted then
 (bif (decide (And ((List.length m.mem) ≤ 1099511627776) ((List.length m.out) ≤ 1099511627776))) then
 (Tree.letv (okO [AT.mach, AT.trap]) (K.plain m) fun x0 =>
 (Tree.leaf (SV.tup [(SV.agg [(SV.arr IntKind.u32 16 x0.fst.core.regs), (SV.v (Value.int IntKind.u32 x0.fst.core.pc)), (SV.arr IntKind.u32 12 x0.fst.core.csr), (SV.rd ETy.u8 x0.fst.mem), (SV.v (Value.int IntKind.u64 x0.fst.time)), (SV.rd ETy.u8 x0.fst.out), (SV.v (Value.bool x0.fst.halted))]), (SV.agg [(SV.v (Value.int IntKind.i64 x0.snd.cause)), (SV.v (Value.int IntKind.u32 x0.snd.tval))])])))
 else
 (Tree.fail))
 else
 (Tree.letv (okO [AT.b]) (K.due m) fun x0 =>
 (bif x0 then
 (Tree.letv (okO [AT.mach, AT.trap]) (K.endS m (PTrap.mk (6 : Int) (0 : Int))) fun x1 =>
 (Tree.leaf (SV.tup [(SV.agg [(SV.arr IntKind.u32 16 x1.fst.core.regs), (SV.v (Value.int IntKind.u32 x1.fst.core.pc)), (SV.arr IntKind.u32 12 x1.fst.core.csr), (SV.rd ETy.u8 x1.fst.mem), (SV.v (Value.int IntKind.u64 x1.fst.time)), (SV.rd ETy.u8 x1.fst.out), (SV.v (Value.bool x1.fst.halted))]), (SV.agg [(SV.v (Value.int IntKind.i64 x1.snd.cause)), (SV.v (Value.int IntKind.u32 x1.snd.tval))])])))
 else
 (bif (decide (And ((List.length m.mem) ≤ 1099511627776) ((List.length m.out) ≤ 1099511627776))) then
 (Tree.letv (okO [AT.mach, AT.trap]) (K.plain m) fun x1 =>
 (Tree.leaf (SV.tup [(SV.agg [(SV.arr IntKind.u32 16 x1.fst.core.regs), (SV.v (Value.int IntKind.u32 x1.fst.core.pc)), (SV.arr IntKind.u32 12 x1.fst.core.csr), (SV.rd ETy.u8 x1.fst.mem), (SV.v (Value.int IntKind.u64 x1.fst.time)), (SV.rd ETy.u8 x1.fst.out), (SV.v (Value.bool x1.fst.halted))]), (SV.agg [(SV.v (Value.int IntKind.i64 x1.snd.cause)), (SV.v (Value.int IntKind.u32 x1.snd.tval))])])))
 else
 (Tree.fail)))) := by kernel_rfl
section
attribute [local irreducible] evF evFL evFLs
theorem a_step_Step (m : PMach) (hpre : m.mem.length ≤ 1099511627776 ∧ m.out.length ≤ 1099511627776) (ok_m : okMach m) : (evF E_step_Step 60 56 (encArgs [.mach] (m, ()))).ends fun out_ => decO [.mach, .trap] out_ = some (K.step m) := by
  rw [t_step_Step, Tree.ends_holds]
  simp only [Tree.holds_loop, Tree.holds_fork, Tree.holds_next, if_true, Tree.holds_cond, Tree.holds_letv, Tree.holds_leaf, Tree.holds_fail, decO, decA, decTup, decMach, decCore, decTrap, decInstr, decPart, decGuest, decConf, decEvent, decVcpu, decStep, bytesS, boolS, eventsS, intsS, guestsS, vcpusS, rowS, castL, Option.bind_some, Option.map_some, Option.some.injEq, Nat.beq_refl, beq_self_eq_true, Bool.and_self, cond_true, cond_false, eq_self, beq_iff_eq, beq_eq_false_iff_ne, bne_iff_ne, bne_eq_false_iff_eq, ne_eq, decide_eq_true_eq, decide_eq_false_iff_not, ble_true, ble_false, inRange_iff, inRange_false]
  unfold K.step
  repeat' (first | refine drop_ok ?_ | intro _ | with_reducible apply And.intro)
  all_goals first | (simp_all; done) | omega
  
theorem c_step_Step : SpecOk EB_0_1_2 56 S_step_Step := spec_sig ok_step_Step (n := 60) fun ⟨m, ⟨⟩⟩ h hok => a_step_Step m (of_decide_eq_true h) (ok_mach (okSL_head hok))
end

/-! timeslice_until -/
@[reducible] def L_until (host : PMach) : LoopSpec where
  σ := PMach × Nat
  slots := [1, 2, 4, 6]
  keys := [1, 2, 4]
  vals := fun x => [.loc 0 0 0 1, .loc 1 0 0 1, .loc 2 0 0 1, .v (.int .i64 (x.2 : Int))]
  blks := fun x => [.cells (machC x.1) 30, .cells [.arr .u32 16 [0, 0, 0, 0, 0, 0, 0, 0, 0, 0, 0, 0, 0, 0, 0, 0], .v (.int .u32 0), .arr .u32 12 [0, 0, 0, 0, 0, 0, 0, 0, 0, 0, 0, 0], .v (.slice none 0 0), .v (.int .u64 0), .v (.slice none 0 0), .b false] 30, .cells [.v (.int .i64 0), .v (.int .u32 0)] 49]
  inv := fun x => x.2 < 1000 ∧ K.untl (1000 - x.2) x.1 (x.2 : Int) = K.untl 1000 host 0 ∧ K.User host x.1
  mu := fun x => 1000 - x.2
def S_timeslice_until : Spec := sig [.mach] [.mach, .i .i64, .trap, .i .u64] (fun (host, _) => K.until host) (pre := fun (host, _) => decide (K.stops host = true ∧ K.super host.core = false ∧ host.halted = false ∧ host.mem.length ≤ 1099511627776 ∧ host.out.length ≤ 1099511627776))
noncomputable def E_timeslice_until : Env := EB_0_1_2.adds [(56, S_step_Step)]

theorem ok_timeslice_until : EnvOk E_timeslice_until := okEB_0_1_2.adds (l := _) ⟨c_step_Step, trivial⟩

theorem t_timeslice_until (host : PMach) : evFL E_timeslice_until (fun _ => some (L_until host)) 60 31 (encArgs [.mach] (host, ())) = 
 Tree.loop 0 (L_until host) [(SV.loc 0 0 0 1), (SV.loc 1 0 0 1), (SV.loc 2 0 0 1), (SV.v (Value.int IntKind.i64 (0 : Int)))] [(Blk.cells [(SV.arr IntKind.u32 16 host.core.regs), (SV.v (Value.int IntKind.u32 host.core.pc)), (SV.arr IntKind.u32 12 host.core.csr), (SV.rd ETy.u8 host.mem), (SV.v (Value.int IntKind.u64 host.time)), (SV.rd ETy.u8 host.out), (SV.v (Value.bool host.halted))] 30), (Blk.cells [(SV.arr IntKind.u32 16 [(0 : Int), (0 : Int), (0 : Int), (0 : Int), (0 : Int), (0 : Int), (0 : Int), (0 : Int), (0 : Int), (0 : Int), (0 : Int), (0 : Int), (0 : Int), (0 : Int), (0 : Int), (0 : Int)]), (SV.v (Value.int IntKind.u32 (0 : Int))), (SV.arr IntKind.u32 12 [(0 : Int), (0 : Int), (0 : Int), (0 : Int), (0 : Int), (0 : Int), (0 : Int), (0 : Int), (0 : Int), (0 : Int), (0 : Int), (0 : Int)]), (SV.v (Value.slice Option.none 0 0)), (SV.v (Value.int IntKind.u64 (0 : Int))), (SV.v (Value.slice Option.none 0 0)), (SV.b false)] 30), (Blk.cells [(SV.v (Value.int IntKind.i64 (0 : Int))), (SV.v (Value.int IntKind.u32 (0 : Int)))] 49)] fun (x0 : (Prod PMach Nat)) =>
 (bif (decide (And ((List.length x0.fst.mem) ≤ 1099511627776) ((List.length x0.fst.out) ≤ 1099511627776))) then
 (Tree.letv (okO [AT.mach, AT.trap]) (K.step x0.fst) fun x1 =>
 (bif (bne x1.snd.cause (0 : Int)) then
 (Tree.leaf (SV.tup [(SV.agg [(SV.arr IntKind.u32 16 x1.fst.core.regs), (SV.v (Value.int IntKind.u32 x1.fst.core.pc)), (SV.arr IntKind.u32 12 x1.fst.core.csr), (SV.rd ETy.u8 x1.fst.mem), (SV.v (Value.int IntKind.u64 x1.fst.time)), (SV.rd ETy.u8 x1.fst.out), (SV.v (Value.bool x1.fst.halted))]), (SV.v (Value.int IntKind.i64 (Int.ofNat x0.snd))), (SV.agg [(SV.v (Value.int IntKind.i64 x1.snd.cause)), (SV.v (Value.int IntKind.u32 x1.snd.tval))]), (SV.v (Value.int IntKind.u64 x0.fst.time))]))
 else
 ((Tree.next 0 [(SV.loc 0 0 0 1), (SV.loc 1 0 0 1), (SV.loc 2 0 0 1), (SV.v (Value.int IntKind.i64 (IntKind.wrap IntKind.i64 ((Int.ofNat x0.snd) + (1 : Int)))))] [(Blk.cells [(SV.arr IntKind.u32 16 x1.fst.core.regs), (SV.v (Value.int IntKind.u32 x1.fst.core.pc)), (SV.arr IntKind.u32 12 x1.fst.core.csr), (SV.rd ETy.u8 x1.fst.mem), (SV.v (Value.int IntKind.u64 x1.fst.time)), (SV.rd ETy.u8 x1.fst.out), (SV.v (Value.bool x1.fst.halted))] 30), (Blk.cells [(SV.arr IntKind.u32 16 [(0 : Int), (0 : Int), (0 : Int), (0 : Int), (0 : Int), (0 : Int), (0 : Int), (0 : Int), (0 : Int), (0 : Int), (0 : Int), (0 : Int), (0 : Int), (0 : Int), (0 : Int), (0 : Int)]), (SV.v (Value.int IntKind.u32 (0 : Int))), (SV.arr IntKind.u32 12 [(0 : Int), (0 : Int), (0 : Int), (0 : Int), (0 : Int), (0 : Int), (0 : Int), (0 : Int), (0 : Int), (0 : Int), (0 : Int), (0 : Int)]), (SV.v (Value.slice Option.none 0 0)), (SV.v (Value.int IntKind.u64 (0 : Int))), (SV.v (Value.slice Option.none 0 0)), (SV.b false)] 30), (Blk.cells [(SV.v (Value.int IntKind.i64 (0 : Int))), (SV.v (Value.int IntKind.u32 (0 : Int)))] 49)]))))
 else
 (Tree.fail)) := by kernel_rfl
section
attribute [local irreducible] evF evFL evFLs
theorem a_timeslice_until (host : PMach) (hpre : K.stops host = true ∧ K.super host.core = false ∧ host.halted = false ∧ host.mem.length ≤ 1099511627776 ∧ host.out.length ≤ 1099511627776) (ok_host : okMach host) : (evFL E_timeslice_until (fun _ => some (L_until host)) 60 31 (encArgs [.mach] (host, ()))).ends fun out_ => decO [.mach, .i .i64, .trap, .i .u64] out_ = some (K.until host) := by
  rw [t_timeslice_until, Tree.ends_holds]
  obtain ⟨hp1, hp2, hp3, hp4, hp5⟩ := hpre
  have hp1 : (K.untl 1000 host 0).isSome = true := hp1
  have hl := ok_host.core.csr.1
  rw [Tree.holds_loop]
  refine ⟨⟨((host, 0) : PMach × Nat), rfl, rfl, ⟨by show (0 : Nat) < 1000; omega, rfl, ⟨hl, hp2, hp3, rfl, rfl⟩⟩, trivial⟩, fun (x : PMach × Nat) hx => ?_⟩
  obtain ⟨h, j⟩ := x
  obtain ⟨i1, i2, i3⟩ := hx
  have i1 : j < 1000 := i1
  have i2 : K.untl (1000 - j) h (j : Int) = K.untl 1000 host 0 := i2
  have i3 : K.User host h := i3
  have hu : K.until host = (K.untl 1000 host 0).getD (host, 0, ⟨0, 0⟩, 0) := rfl
  have at_ : ∀ (y : PMach × Nat), y.2 < 1000 → K.untl (1000 - y.2) y.1 (y.2 : Int) = K.untl 1000 host 0 → K.User host y.1 → 1000 - y.2 < 1000 - j → ∀ w : Int, w = (y.2 : Int) → (L_until host).at (fun y => (L_until host).mu y < (L_until host).mu (h, j)) [.loc 0 0 0 1, .loc 1 0 0 1, .loc 2 0 0 1, .v (.int .i64 w)] [.cells (machC y.1) 30, .cells [.arr .u32 16 [0, 0, 0, 0, 0, 0, 0, 0, 0, 0, 0, 0, 0, 0, 0, 0], .v (.int .u32 0), .arr .u32 12 [0, 0, 0, 0, 0, 0, 0, 0, 0, 0, 0, 0], .v (.slice none 0 0), .v (.int .u64 0), .v (.slice none 0 0), .b false] 30, .cells [.v (.int .i64 0), .v (.int .u32 0)] 49] := fun y h1 h2 h3 h4 w hw => by
    subst hw; exact ⟨y, rfl, rfl, ⟨h1, h2, h3⟩, h4⟩
  generalize K.untl 1000 host 0 = R at *
  rw [show 1000 - j = (999 - j) + 1 by omega, untl_succ] at i2
  have w1 : IntKind.i64.wrap ((j : Int) + 1) = ((j + 1 : Nat) : Int) := by rw [wrapI64 (by omega) (by omega)]; rfl
  have m1 := i3.mem
  have m2 := i3.out
  simp only [Tree.holds_loop, Tree.holds_fork, Tree.holds_next, if_true, Tree.holds_cond, Tree.holds_letv, Tree.holds_leaf, Tree.holds_fail, decO, decA, decTup, decMach, decCore, decTrap, decInstr, decPart, decGuest, decConf, decEvent, decVcpu, decStep, bytesS, boolS, eventsS, intsS, guestsS, vcpusS, rowS, castL, Option.bind_some, Option.map_some, Option.some.injEq, Nat.beq_refl, beq_self_eq_true, Bool.and_self, cond_true, cond_false, eq_self, beq_iff_eq, beq_eq_false_iff_ne, bne_iff_ne, bne_eq_false_iff_eq, ne_eq, decide_eq_true_eq, decide_eq_false_iff_not, ble_true, ble_false, inRange_iff, inRange_false, Int.ofNat_eq_natCast, w1]
  by_cases hc : (K.step h).2.cause = 0
  · rw [if_pos hc] at i2
    repeat' (first | refine drop_ok ?_ | intro _ | with_reducible apply And.intro)
    all_goals first
      | (exfalso; omega)
      | (refine at_ ((K.step h).1, j + 1) ?_ ?_ (i3.step hc) ?_ _ rfl
         · show j + 1 < 1000
           rcases Nat.lt_or_ge (j + 1) 1000 with q | q
           · exact q
           · rw [show 999 - j = 0 by omega] at i2
             simp only [K.untl] at i2
             rw [← i2] at hp1; cases hp1
         · show K.untl (1000 - (j + 1)) (K.step h).1 ((j + 1 : Nat) : Int) = R
           rw [show 1000 - (j + 1) = 999 - j by omega]; exact i2
         · show 1000 - (j + 1) < 1000 - j; omega)
      | (exact absurd hc (by assumption))
      | trace_state
  · rw [if_neg hc] at i2
    repeat' (first | refine drop_ok ?_ | intro _ | with_reducible apply And.intro)
    all_goals first
      | (exfalso; omega)
      | (exact absurd (by assumption) hc)
      | (rw [hu, ← i2]; rfl)
      | trace_state
  
theorem c_timeslice_until : SpecOk EB_0_1_2 31 S_timeslice_until := spec_sigL ok_timeslice_until (n := 60) (fun (host, _) => fun _ => some (L_until host)) fun ⟨host, ⟨⟩⟩ h hok => a_timeslice_until host (of_decide_eq_true h) (ok_mach (okSL_head hok))
end

/-! save_Save -/

def S_save_Save : Spec := sig [.mach, .vcpu] [.vcpu] (fun (host, v, _) => K.save host v)
noncomputable def E_save_Save : Env := EB.adds [(62, S_regs_ClearZero)]

theorem ok_save_Save : EnvOk E_save_Save := okEB.adds (l := _) ⟨c_regs_ClearZero, trivial⟩

theorem t_save_Save (host : PMach) (v : PVcpu) : evF E_save_Save 60 34 (encArgs [.mach, .vcpu] (host, v, ())) = 
 Tree.letv (okO [(AT.a IntKind.u32 16)]) (List.set host.core.regs 0 (0 : Int)) fun x0 =>
 (Tree.leaf (SV.agg [(SV.arr IntKind.u32 16 x0), (SV.v (Value.int IntKind.u32 (List.getD host.core.csr 1 (0 : Int)))), (SV.arr IntKind.u32 12 v.core.csr), (SV.rd ETy.u8 v.out), (SV.v (Value.bool v.halted)), (SV.v (Value.int IntKind.i64 v.done)), (SV.rd ETy.event v.log)])) := by kernel_rfl
section
attribute [local irreducible] evF evFL evFLs
theorem a_save_Save (host : PMach) (v : PVcpu) (ok_host : okMach host) (ok_v : okVcpu v) : (evF E_save_Save 60 34 (encArgs [.mach, .vcpu] (host, v, ()))).ends fun out_ => decO [.vcpu] out_ = some (K.save host v) := by
  rw [t_save_Save, Tree.ends_holds]
  simp only [Tree.holds_loop, Tree.holds_fork, Tree.holds_next, if_true, Tree.holds_cond, Tree.holds_letv, Tree.holds_leaf, Tree.holds_fail, decO, decA, decTup, decMach, decCore, decTrap, decInstr, decPart, decGuest, decConf, decEvent, decVcpu, decStep, bytesS, boolS, eventsS, intsS, guestsS, vcpusS, rowS, castL, Option.bind_some, Option.map_some, Option.some.injEq, Nat.beq_refl, beq_self_eq_true, Bool.and_self, cond_true, cond_false, eq_self, beq_iff_eq, beq_eq_false_iff_ne, bne_iff_ne, bne_eq_false_iff_eq, ne_eq, decide_eq_true_eq, decide_eq_false_iff_not, ble_true, ble_false, inRange_iff, inRange_false, K.save]
  repeat' (first | refine drop_ok ?_ | intro _ | with_reducible apply And.intro)
  all_goals first | trivial | rfl | (simp_all; done) | trace_state
  
theorem c_save_Save : SpecOk EB 34 S_save_Save := spec_sig ok_save_Save (n := 60) fun ⟨host, v, ⟨⟩⟩ h hok => a_save_Save host v (ok_mach (okSL_head hok)) (ok_vcpu (okSL_head (okSL_tail hok)))
end

/-! handler_IsMonitorTrap -/

def S_handler_IsMonitorTrap : Spec := sig [.trap] [.b] (fun (t, _) => K.ours t)
noncomputable def E_handler_IsMonitorTrap : Env := EB.adds []

theorem ok_handler_IsMonitorTrap : EnvOk E_handler_IsMonitorTrap := okEB.adds (l := _) trivial

theorem t_handler_IsMonitorTrap (t : PTrap) : evF E_handler_IsMonitorTrap 60 102 (encArgs [.trap] (t, ())) = 
 bif (BEq.beq t.cause (6 : Int)) then
 (Tree.leaf (SV.b true))
 else
 (bif (BEq.beq t.cause (0 : Int)) then
 (Tree.leaf (SV.b true))
 else
 (Tree.leaf (SV.b false))) := by kernel_rfl
section
attribute [local irreducible] evF evFL evFLs
theorem a_handler_IsMonitorTrap (t : PTrap) (ok_t : okTrap t) : (evF E_handler_IsMonitorTrap 60 102 (encArgs [.trap] (t, ()))).ends fun out_ => decO [.b] out_ = some (K.ours t) := by
  rw [t_handler_IsMonitorTrap, Tree.ends_holds]
  simp only [Tree.holds_loop, Tree.holds_fork, Tree.holds_next, if_true, Tree.holds_cond, Tree.holds_letv, Tree.holds_leaf, Tree.holds_fail, decO, decA, decTup, decMach, decCore, decTrap, decInstr, decPart, decGuest, decConf, decEvent, decVcpu, decStep, bytesS, boolS, eventsS, intsS, guestsS, vcpusS, rowS, castL, Option.bind_some, Option.map_some, Option.some.injEq, Nat.beq_refl, beq_self_eq_true, Bool.and_self, cond_true, cond_false, eq_self, beq_iff_eq, beq_eq_false_iff_ne, bne_iff_ne, bne_eq_false_iff_eq, ne_eq, decide_eq_true_eq, decide_eq_false_iff_not, ble_true, ble_false, inRange_iff, inRange_false, K.ours]
  repeat' (first | refine drop_ok ?_ | intro _ | with_reducible apply And.intro)
  all_goals first | omega | (simp_all; done)
  
theorem c_handler_IsMonitorTrap : SpecOk EB 102 S_handler_IsMonitorTrap := spec_sig ok_handler_IsMonitorTrap (n := 60) fun ⟨t, ⟨⟩⟩ h hok => a_handler_IsMonitorTrap t (ok_trap (okSL_head hok))
end

/-! emul_of -/

def S_emul_of : Spec := sig [.i .u32] [.instr, .b] (fun (w, _) => ((K.decode w).1, K.isPriv w))
noncomputable def E_emul_of : Env := EB_0_1.adds [(133, S_isa_Decode), (120, S_isa_IsPrivileged)]

theorem ok_emul_of : EnvOk E_emul_of := okEB_0_1.adds (l := _) ⟨c_isa_Decode, (up_to_0_1 c_isa_IsPrivileged), trivial⟩

theorem t_emul_of (w : Int) : evF E_emul_of 60 123 (encArgs [.i .u32] (w, ())) = 
 Tree.letv (okO [AT.instr, AT.b]) (K.decode w) fun x0 =>
 (bif x0.snd then
 (Tree.letv (okO [AT.b]) (K.privd x0.fst.op) fun x1 =>
 (bif x1 then
 (Tree.leaf (SV.tup [(SV.agg [(SV.v (Value.int IntKind.i64 x0.fst.op)), (SV.v (Value.int IntKind.i64 x0.fst.rd)), (SV.v (Value.int IntKind.i64 x0.fst.ra)), (SV.v (Value.int IntKind.i64 x0.fst.rb)), (SV.v (Value.int IntKind.i32 x0.fst.imm))]), (SV.b true)]))
 else
 (Tree.leaf (SV.tup [(SV.agg [(SV.v (Value.int IntKind.i64 x0.fst.op)), (SV.v (Value.int IntKind.i64 x0.fst.rd)), (SV.v (Value.int IntKind.i64 x0.fst.ra)), (SV.v (Value.int IntKind.i64 x0.fst.rb)), (SV.v (Value.int IntKind.i32 x0.fst.imm))]), (SV.b false)]))))
 else
 (Tree.leaf (SV.tup [(SV.agg [(SV.v (Value.int IntKind.i64 x0.fst.op)), (SV.v (Value.int IntKind.i64 x0.fst.rd)), (SV.v (Value.int IntKind.i64 x0.fst.ra)), (SV.v (Value.int IntKind.i64 x0.fst.rb)), (SV.v (Value.int IntKind.i32 x0.fst.imm))]), (SV.b false)]))) := by kernel_rfl
section
attribute [local irreducible] evF evFL evFLs
theorem a_emul_of (w : Int) (ok_w : okI .u32 w) : (evF E_emul_of 60 123 (encArgs [.i .u32] (w, ()))).ends fun out_ => decO [.instr, .b] out_ = some (((K.decode w).1, K.isPriv w)) := by
  rw [t_emul_of, Tree.ends_holds]
  simp only [Tree.holds_loop, Tree.holds_fork, Tree.holds_next, if_true, Tree.holds_cond, Tree.holds_letv, Tree.holds_leaf, Tree.holds_fail, decO, decA, decTup, decMach, decCore, decTrap, decInstr, decPart, decGuest, decConf, decEvent, decVcpu, decStep, bytesS, boolS, eventsS, intsS, guestsS, vcpusS, rowS, castL, Option.bind_some, Option.map_some, Option.some.injEq, Nat.beq_refl, beq_self_eq_true, Bool.and_self, cond_true, cond_false, eq_self, beq_iff_eq, beq_eq_false_iff_ne, bne_iff_ne, bne_eq_false_iff_eq, ne_eq, decide_eq_true_eq, decide_eq_false_iff_not, ble_true, ble_false, inRange_iff, inRange_false, K.isPriv]
  repeat' (first | refine drop_ok ?_ | intro _ | with_reducible apply And.intro)
  all_goals simp_all
  
theorem c_emul_of : SpecOk EB_0_1 123 S_emul_of := spec_sig ok_emul_of (n := 60) fun ⟨w, ⟨⟩⟩ h hok => a_emul_of w (ok_int (okSL_head hok))
end

/-! emul_CanEmulate -/

def S_emul_CanEmulate : Spec := sig [.vcpu, .trap] [.b] (fun (v, t, _) => K.can v t)
noncomputable def E_emul_CanEmulate : Env := EB_0_1.adds [(123, S_emul_of), (124, S_trap_IsSupervisor)]

theorem ok_emul_CanEmulate : EnvOk E_emul_CanEmulate := okEB_0_1.adds (l := _) ⟨c_emul_of, (up_to_0_1 c_trap_IsSupervisor), trivial⟩

theorem t_emul_CanEmulate (v : PVcpu) (t : PTrap) : evF E_emul_CanEmulate 60 104 (encArgs [.vcpu, .trap] (v, t, ())) = 
 Tree.letv (okO [AT.instr, AT.b]) ((K.decode t.tval).fst, (K.isPriv t.tval)) fun x0 =>
 (bif x0.snd then
 (bif (BEq.beq t.cause (2 : Int)) then
 (Tree.letv (okO [AT.b]) (K.super v.core) fun x1 =>
 (bif x1 then
 (Tree.leaf (SV.b true))
 else
 (Tree.leaf (SV.b false))))
 else
 (Tree.leaf (SV.b false)))
 else
 (Tree.leaf (SV.b false))) := by kernel_rfl
section
attribute [local irreducible] evF evFL evFLs
theorem a_emul_CanEmulate (v : PVcpu) (t : PTrap) (ok_v : okVcpu v) (ok_t : okTrap t) : (evF E_emul_CanEmulate 60 104 (encArgs [.vcpu, .trap] (v, t, ()))).ends fun out_ => decO [.b] out_ = some (K.can v t) := by
  rw [t_emul_CanEmulate, Tree.ends_holds]
  simp only [Tree.holds_loop, Tree.holds_fork, Tree.holds_next, if_true, Tree.holds_cond, Tree.holds_letv, Tree.holds_leaf, Tree.holds_fail, decO, decA, decTup, decMach, decCore, decTrap, decInstr, decPart, decGuest, decConf, decEvent, decVcpu, decStep, bytesS, boolS, eventsS, intsS, guestsS, vcpusS, rowS, castL, Option.bind_some, Option.map_some, Option.some.injEq, Nat.beq_refl, beq_self_eq_true, Bool.and_self, cond_true, cond_false, eq_self, beq_iff_eq, beq_eq_false_iff_ne, bne_iff_ne, bne_eq_false_iff_eq, ne_eq, decide_eq_true_eq, decide_eq_false_iff_not, ble_true, ble_false, inRange_iff, inRange_false, K.can]
  repeat' (first | refine drop_ok ?_ | intro _ | with_reducible apply And.intro)
  all_goals simp_all
  
theorem c_emul_CanEmulate : SpecOk EB_0_1 104 S_emul_CanEmulate := spec_sig ok_emul_CanEmulate (n := 60) fun ⟨v, t, ⟨⟩⟩ h hok => a_emul_CanEmulate v t (ok_vcpu (okSL_head hok)) (ok_trap (okSL_head (okSL_tail hok)))
end

/-! priv_ReadsTime -/

def S_priv_ReadsTime : Spec := sig [.instr] [.b] (fun (i, _) => K.reads i)
noncomputable def E_priv_ReadsTime : Env := EB.adds []

theorem ok_priv_ReadsTime : EnvOk E_priv_ReadsTime := okEB.adds (l := _) trivial

theorem t_priv_ReadsTime (i : PInstr) : evF E_priv_ReadsTime 60 125 (encArgs [.instr] (i, ())) = 
 bif (BEq.beq i.op (21 : Int)) then
 (bif (BEq.beq i.imm (7 : Int)) then
 (Tree.leaf (SV.b true))
 else
 (bif (BEq.beq i.imm (8 : Int)) then
 (Tree.leaf (SV.b true))
 else
 (Tree.leaf (SV.b false))))
 else
 (Tree.leaf (SV.b false)) := by kernel_rfl
section
attribute [local irreducible] evF evFL evFLs
theorem a_priv_ReadsTime (i : PInstr) (ok_i : okInstr i) : (evF E_priv_ReadsTime 60 125 (encArgs [.instr] (i, ()))).ends fun out_ => decO [.b] out_ = some (K.reads i) := by
  rw [t_priv_ReadsTime, Tree.ends_holds]
  simp only [Tree.holds_loop, Tree.holds_fork, Tree.holds_next, if_true, Tree.holds_cond, Tree.holds_letv, Tree.holds_leaf, Tree.holds_fail, decO, decA, decTup, decMach, decCore, decTrap, decInstr, decPart, decGuest, decConf, decEvent, decVcpu, decStep, bytesS, boolS, eventsS, intsS, guestsS, vcpusS, rowS, castL, Option.bind_some, Option.map_some, Option.some.injEq, Nat.beq_refl, beq_self_eq_true, Bool.and_self, cond_true, cond_false, eq_self, beq_iff_eq, beq_eq_false_iff_ne, bne_iff_ne, bne_eq_false_iff_eq, ne_eq, decide_eq_true_eq, decide_eq_false_iff_not, ble_true, ble_false, inRange_iff, inRange_false]
  repeat' (first | refine drop_ok ?_ | intro _ | with_reducible apply And.intro)
  all_goals simp_all [K.reads]
  
theorem c_priv_ReadsTime : SpecOk EB 125 S_priv_ReadsTime := spec_sig ok_priv_ReadsTime (n := 60) fun ⟨i, ⟨⟩⟩ h hok => a_priv_ReadsTime i (ok_instr (okSL_head hok))
end

/-! emul_seen -/

def S_emul_seen : Spec := sig [.instr, .i .i64, .i .u64] [.event] (fun (i, at_, time, _) => K.seen i at_ time)
noncomputable def E_emul_seen : Env := EB.adds []

theorem ok_emul_seen : EnvOk E_emul_seen := okEB.adds (l := _) trivial

theorem t_emul_seen (i : PInstr) (at_ : Int) (time : Int) : evF E_emul_seen 60 126 (encArgs [.instr, .i .i64, .i .u64] (i, at_, time, ())) = 
 bif (BEq.beq i.imm (8 : Int)) then
 (Tree.leaf (SV.agg [(SV.v (Value.int IntKind.i64 (3 : Int))), (SV.v (Value.int IntKind.i64 at_)), (SV.v (Value.int IntKind.u64 time))]))
 else
 (Tree.leaf (SV.agg [(SV.v (Value.int IntKind.i64 (2 : Int))), (SV.v (Value.int IntKind.i64 at_)), (SV.v (Value.int IntKind.u64 time))])) := by kernel_rfl
section
attribute [local irreducible] evF evFL evFLs
theorem a_emul_seen (i : PInstr) (at_ : Int) (time : Int) (ok_i : okInstr i) (ok_at_ : okI .i64 at_) (ok_time : okI .u64 time) : (evF E_emul_seen 60 126 (encArgs [.instr, .i .i64, .i .u64] (i, at_, time, ()))).ends fun out_ => decO [.event] out_ = some (K.seen i at_ time) := by
  rw [t_emul_seen, Tree.ends_holds]
  simp only [Tree.holds_loop, Tree.holds_fork, Tree.holds_next, if_true, Tree.holds_cond, Tree.holds_letv, Tree.holds_leaf, Tree.holds_fail, decO, decA, decTup, decMach, decCore, decTrap, decInstr, decPart, decGuest, decConf, decEvent, decVcpu, decStep, bytesS, boolS, eventsS, intsS, guestsS, vcpusS, rowS, castL, Option.bind_some, Option.map_some, Option.some.injEq, Nat.beq_refl, beq_self_eq_true, Bool.and_self, cond_true, cond_false, eq_self, beq_iff_eq, beq_eq_false_iff_ne, bne_iff_ne, bne_eq_false_iff_eq, ne_eq, decide_eq_true_eq, decide_eq_false_iff_not, ble_true, ble_false, inRange_iff, inRange_false, K.seen]
  repeat' (first | refine drop_ok ?_ | intro _ | with_reducible apply And.intro)
  all_goals simp_all
  
theorem c_emul_seen : SpecOk EB 126 S_emul_seen := spec_sig ok_emul_seen (n := 60) fun ⟨i, at_, time, ⟨⟩⟩ h hok => a_emul_seen i at_ time (ok_instr (okSL_head hok)) (ok_int (okSL_head (okSL_tail hok))) (ok_int (okSL_head (okSL_tail (okSL_tail hok))))
end

/-! vcpu_WithMachine -/

def S_vcpu_WithMachine : Spec := sig [.vcpu, .mach] [.vcpu] (fun (v, m, _) => K.vwith v m)
noncomputable def E_vcpu_WithMachine : Env := EB.adds []

theorem ok_vcpu_WithMachine : EnvOk E_vcpu_WithMachine := okEB.adds (l := _) trivial

theorem t_vcpu_WithMachine (v : PVcpu) (m : PMach) : evF E_vcpu_WithMachine 60 127 (encArgs [.vcpu, .mach] (v, m, ())) = 
 bif m.halted then
 (Tree.leaf (SV.agg [(SV.arr IntKind.u32 16 m.core.regs), (SV.v (Value.int IntKind.u32 m.core.pc)), (SV.arr IntKind.u32 12 m.core.csr), (SV.rd ETy.u8 m.out), (SV.b true), (SV.v (Value.int IntKind.i64 v.done)), (SV.rd ETy.event v.log)]))
 else
 (Tree.leaf (SV.agg [(SV.arr IntKind.u32 16 m.core.regs), (SV.v (Value.int IntKind.u32 m.core.pc)), (SV.arr IntKind.u32 12 m.core.csr), (SV.rd ETy.u8 m.out), (SV.b false), (SV.v (Value.int IntKind.i64 v.done)), (SV.rd ETy.event v.log)])) := by kernel_rfl
section
attribute [local irreducible] evF evFL evFLs
theorem a_vcpu_WithMachine (v : PVcpu) (m : PMach) (ok_v : okVcpu v) (ok_m : okMach m) : (evF E_vcpu_WithMachine 60 127 (encArgs [.vcpu, .mach] (v, m, ()))).ends fun out_ => decO [.vcpu] out_ = some (K.vwith v m) := by
  rw [t_vcpu_WithMachine, Tree.ends_holds]
  simp only [Tree.holds_loop, Tree.holds_fork, Tree.holds_next, if_true, Tree.holds_cond, Tree.holds_letv, Tree.holds_leaf, Tree.holds_fail, decO, decA, decTup, decMach, decCore, decTrap, decInstr, decPart, decGuest, decConf, decEvent, decVcpu, decStep, bytesS, boolS, eventsS, intsS, guestsS, vcpusS, rowS, castL, Option.bind_some, Option.map_some, Option.some.injEq, Nat.beq_refl, beq_self_eq_true, Bool.and_self, cond_true, cond_false, eq_self, K.vwith]
  cases m.halted <;> simp
  
theorem c_vcpu_WithMachine : SpecOk EB 127 S_vcpu_WithMachine := spec_sig ok_vcpu_WithMachine (n := 60) fun ⟨v, m, ⟨⟩⟩ h hok => a_vcpu_WithMachine v m (ok_vcpu (okSL_head hok)) (ok_mach (okSL_head (okSL_tail hok)))
end

/-! vcpu_Machine -/

def S_vcpu_Machine : Spec := sig [.vcpu, .rd .u8, .i .u64] [.mach] (fun (v, mem, time, _) => K.vmach v mem time)
noncomputable def E_vcpu_Machine : Env := EB.adds []

theorem ok_vcpu_Machine : EnvOk E_vcpu_Machine := okEB.adds (l := _) trivial

theorem t_vcpu_Machine (v : PVcpu) (mem : List Int) (time : Int) : evF E_vcpu_Machine 60 18 (encArgs [.vcpu, .rd .u8, .i .u64] (v, mem, time, ())) = 
 bif v.halted then
 (Tree.leaf (SV.agg [(SV.arr IntKind.u32 16 v.core.regs), (SV.v (Value.int IntKind.u32 v.core.pc)), (SV.arr IntKind.u32 12 v.core.csr), (SV.rd ETy.u8 mem), (SV.v (Value.int IntKind.u64 time)), (SV.rd ETy.u8 v.out), (SV.b true)]))
 else
 (Tree.leaf (SV.agg [(SV.arr IntKind.u32 16 v.core.regs), (SV.v (Value.int IntKind.u32 v.core.pc)), (SV.arr IntKind.u32 12 v.core.csr), (SV.rd ETy.u8 mem), (SV.v (Value.int IntKind.u64 time)), (SV.rd ETy.u8 v.out), (SV.b false)])) := by kernel_rfl
section
attribute [local irreducible] evF evFL evFLs
theorem a_vcpu_Machine (v : PVcpu) (mem : List Int) (time : Int) (ok_v : okVcpu v) (ok_mem : okBytes mem) (ok_time : okI .u64 time) : (evF E_vcpu_Machine 60 18 (encArgs [.vcpu, .rd .u8, .i .u64] (v, mem, time, ()))).ends fun out_ => decO [.mach] out_ = some (K.vmach v mem time) := by
  rw [t_vcpu_Machine, Tree.ends_holds]
  simp only [Tree.holds_loop, Tree.holds_fork, Tree.holds_next, if_true, Tree.holds_cond, Tree.holds_letv, Tree.holds_leaf, Tree.holds_fail, decO, decA, decTup, decMach, decCore, decTrap, decInstr, decPart, decGuest, decConf, decEvent, decVcpu, decStep, bytesS, boolS, eventsS, intsS, guestsS, vcpusS, rowS, castL, Option.bind_some, Option.map_some, Option.some.injEq, Nat.beq_refl, beq_self_eq_true, Bool.and_self, cond_true, cond_false, eq_self, K.vmach]
  cases v.halted <;> simp
  
theorem c_vcpu_Machine : SpecOk EB 18 S_vcpu_Machine := spec_sig ok_vcpu_Machine (n := 60) fun ⟨v, mem, time, ⟨⟩⟩ h hok => a_vcpu_Machine v mem time (ok_vcpu (okSL_head hok)) (ok_bytes (okSL_head (okSL_tail hok))) (ok_int (okSL_head (okSL_tail (okSL_tail hok))))
end

/-! emul_Emulate -/

def S_emul_Emulate : Spec := sig [.vcpu, .i .u32, .i .u64] [.vcpu] (fun (v, w, time, _) => K.emu v w time) (pre := fun (v, w, time, _) => decide (v.out.length ≤ 1099511627776 ∧ v.log.length ≤ 1099511627776))
noncomputable def E_emul_Emulate : Env := EB_0_1.adds [(123, S_emul_of), (125, S_priv_ReadsTime), (126, S_emul_seen), (127, S_vcpu_WithMachine), (121, S_priv_Execute), (18, S_vcpu_Machine)]

theorem ok_emul_Emulate : EnvOk E_emul_Emulate := okEB_0_1.adds (l := _) ⟨c_emul_of, (up_to_0_1 c_priv_ReadsTime), (up_to_0_1 c_emul_seen), (up_to_0_1 c_vcpu_WithMachine), (up_to_0_1 c_priv_Execute), (up_to_0_1 c_vcpu_Machine), trivial⟩

theorem t_emul_Emulate (v : PVcpu) (w : Int) (time : Int) : evF E_emul_Emulate 60 106 (encArgs [.vcpu, .i .u32, .i .u64] (v, w, time, ())) = 
 Tree.letv (okO [AT.instr, AT.b]) ((K.decode w).fst, (K.isPriv w)) fun x0 =>
 (bif x0.snd then
 (Tree.letv (okO [AT.b]) (K.reads x0.fst) fun x1 =>
 (bif x1 then
 (bif (Bool.and (decide ((0 : Int) ≤ (Int.ofNat (List.length v.log)))) (Bool.and (decide ((Int.ofNat (List.length v.log)) ≤ (Int.ofNat (List.length v.log)))) (decide ((Int.ofNat (List.length v.log)) = (Int.ofNat (List.length v.log)))))) then
 (Tree.letv (okO [AT.event]) (K.seen x0.fst v.done time) fun x2 =>
 (bif (Nat.ble (((List.length (List.drop 0 (List.take (Int.toNat (Int.ofNat (List.length v.log))) v.log))) + 1) * 24) 140737488355328) then
 (Tree.letv (okO [AT.mach]) (K.vmach (PVcpu.mk v.core v.out v.halted v.done (List.append (List.drop 0 (List.take (Int.toNat (Int.ofNat (List.length v.log))) v.log)) [x2])) [] time) fun x3 =>
 (bif (decide ((List.length x3.out) ≤ 1099511627776)) then
 (Tree.letv (okO [AT.mach]) (K.priv x3 x0.fst) fun x4 =>
 (Tree.letv (okO [AT.vcpu]) (K.vwith (PVcpu.mk v.core v.out v.halted v.done (List.append (List.drop 0 (List.take (Int.toNat (Int.ofNat (List.length v.log))) v.log)) [x2])) x4) fun x5 =>
 (Tree.leaf (SV.agg [(SV.arr IntKind.u32 16 x5.core.regs), (SV.v (Value.int IntKind.u32 x5.core.pc)), (SV.arr IntKind.u32 12 x5.core.csr), (SV.rd ETy.u8 x5.out), (SV.v (Value.bool x5.halted)), (SV.v (Value.int IntKind.i64 (IntKind.wrap IntKind.i64 (x5.done + (1 : Int))))), (SV.rd ETy.event x5.log)]))))
 else
 (Tree.fail)))
 else
 (Tree.fail)))
 else
 (Tree.fail))
 else
 (Tree.letv (okO [AT.mach]) (K.vmach v [] time) fun x2 =>
 (bif (decide ((List.length x2.out) ≤ 1099511627776)) then
 (Tree.letv (okO [AT.mach]) (K.priv x2 x0.fst) fun x3 =>
 (Tree.letv (okO [AT.vcpu]) (K.vwith v x3) fun x4 =>
 (Tree.leaf (SV.agg [(SV.arr IntKind.u32 16 x4.core.regs), (SV.v (Value.int IntKind.u32 x4.core.pc)), (SV.arr IntKind.u32 12 x4.core.csr), (SV.rd ETy.u8 x4.out), (SV.v (Value.bool x4.halted)), (SV.v (Value.int IntKind.i64 (IntKind.wrap IntKind.i64 (x4.done + (1 : Int))))), (SV.rd ETy.event x4.log)]))))
 else
 (Tree.fail)))))
 else
 (Tree.leaf (SV.agg [(SV.arr IntKind.u32 16 v.core.regs), (SV.v (Value.int IntKind.u32 v.core.pc)), (SV.arr IntKind.u32 12 v.core.csr), (SV.rd ETy.u8 v.out), (SV.v (Value.bool v.halted)), (SV.v (Value.int IntKind.i64 v.done)), (SV.rd ETy.event v.log)]))) := by kernel_rfl
section
attribute [local irreducible] evF evFL evFLs
theorem a_emul_Emulate (v : PVcpu) (w : Int) (time : Int) (hpre : v.out.length ≤ 1099511627776 ∧ v.log.length ≤ 1099511627776) (ok_v : okVcpu v) (ok_w : okI .u32 w) (ok_time : okI .u64 time) : (evF E_emul_Emulate 60 106 (encArgs [.vcpu, .i .u32, .i .u64] (v, w, time, ()))).ends fun out_ => decO [.vcpu] out_ = some (K.emu v w time) := by
  rw [t_emul_Emulate, Tree.ends_holds]
  simp only [Tree.holds_loop, Tree.holds_fork, Tree.holds_next, if_true, Tree.holds_cond, Tree.holds_letv, Tree.holds_leaf, Tree.holds_fail, decO, decA, decTup, decMach, decCore, decTrap, decInstr, decPart, decGuest, decConf, decEvent, decVcpu, decStep, bytesS, boolS, eventsS, intsS, guestsS, vcpusS, rowS, castL, Option.bind_some, Option.map_some, Option.some.injEq, Nat.beq_refl, beq_self_eq_true, Bool.and_self, cond_true, cond_false, eq_self, beq_iff_eq, beq_eq_false_iff_ne, bne_iff_ne, bne_eq_false_iff_eq, ne_eq, decide_eq_true_eq, decide_eq_false_iff_not, ble_true, ble_false, inRange_iff, inRange_false, List.drop_zero, Int.ofNat_eq_natCast, Int.toNat_natCast, List.take_length, List.append_eq, Bool.and_eq_true, decide_true, and_true, true_and, K.vwith, K.vmach, wrap_inc ok_v.done]
  have e1 : K.isPriv w = true → K.emu v w time = (let i := (K.decode w).1; let m := K.priv (K.vmach v [] time) i; { core := m.core, out := m.out, halted := m.halted, done := K.inc v.done, log := if K.reads i = true then v.log ++ [K.seen i v.done time] else v.log }) := fun h => by unfold K.emu; rw [if_pos h]
  have e2 : K.isPriv w = false → K.emu v w time = v := fun h => by unfold K.emu; rw [if_neg (by rw [h]; decide)]
  simp only [K.vmach] at e1
  repeat' (first | refine drop_ok ?_ | intro _ | with_reducible apply And.intro)
  all_goals first | omega | (rw [e1 (by assumption)]; simp_all; done) | (rw [e2 (by assumption)]) | (clear e1 e2; simp_all; done) | (clear e1 e2; simp_all; omega)
  
theorem c_emul_Emulate : SpecOk EB_0_1 106 S_emul_Emulate := spec_sig ok_emul_Emulate (n := 60) fun ⟨v, w, time, ⟨⟩⟩ h hok => a_emul_Emulate v w time (of_decide_eq_true h) (ok_vcpu (okSL_head hok)) (ok_int (okSL_head (okSL_tail hok))) (ok_int (okSL_head (okSL_tail (okSL_tail hok))))
end

/-! vtrap_enter -/

def S_vtrap_enter : Spec := sig [.vcpu, .trap, .rd .event] [.vcpu] (fun (v, t, seen, _) => { core := K.enter v.core t, out := v.out, halted := v.halted, done := K.inc v.done, log := v.log }) (pre := fun (v, t, seen, _) => decide (seen.length = 0))
noncomputable def E_vtrap_enter : Env := EB.adds [(117, S_trap_Enter)]

theorem ok_vtrap_enter : EnvOk E_vtrap_enter := okEB.adds (l := _) ⟨c_trap_Enter, trivial⟩

theorem t_vtrap_enter (v : PVcpu) (t : PTrap) (seen : List PEvent) : evF E_vtrap_enter 60 93 (encArgs [.vcpu, .trap, .rd .event] (v, t, seen, ())) = 
 Tree.letv (okO [AT.core]) (K.enter v.core t) fun x0 =>
 (bif (decide ((Int.ofNat (List.length seen)) > (0 : Int))) then
 (bif (decide ((IntKind.wrap IntKind.i64 ((0 : Int) + (Int.ofNat (List.length v.log)))) < (0 : Int))) then
 (Tree.fail)
 else
 (bif (decide ((IntKind.wrap IntKind.i64 ((IntKind.wrap IntKind.i64 ((0 : Int) + (Int.ofNat (List.length v.log)))) + (Int.ofNat (List.length seen)))) < (0 : Int))) then
 (Tree.fail)
 else
 (bif (decide ((IntKind.wrap IntKind.i64 ((IntKind.wrap IntKind.i64 ((0 : Int) + (Int.ofNat (List.length v.log)))) + (Int.ofNat (List.length seen)))) < (0 : Int))) then
 (Tree.fail)
 else
 (bif (decide ((IntKind.wrap IntKind.i64 ((IntKind.wrap IntKind.i64 ((IntKind.wrap IntKind.i64 ((0 : Int) + (Int.ofNat (List.length v.log)))) + (Int.ofNat (List.length seen)))) - (0 : Int))) > (0 : Int))) then
 (bif (Bool.and (decide ((0 : Int) ≤ (IntKind.wrap IntKind.i64 ((IntKind.wrap IntKind.i64 ((IntKind.wrap IntKind.i64 ((0 : Int) + (Int.ofNat (List.length v.log)))) + (Int.ofNat (List.length seen)))) - (0 : Int))))) (decide (((IntKind.wrap IntKind.i64 ((IntKind.wrap IntKind.i64 ((IntKind.wrap IntKind.i64 ((0 : Int) + (Int.ofNat (List.length v.log)))) + (Int.ofNat (List.length seen)))) - (0 : Int))) * (24 : Int)) ≤ (140737488355328 : Int)))) then
 (Tree.fail)
 else
 (Tree.fail))
 else
 (bif (Nat.ble ((List.length v.log) * 24) 140737488355328) then
 (bif (Nat.ble (((List.length v.log) + (List.length seen)) * 24) 140737488355328) then
 (Tree.leaf (SV.agg [(SV.arr IntKind.u32 16 x0.regs), (SV.v (Value.int IntKind.u32 x0.pc)), (SV.arr IntKind.u32 12 x0.csr), (SV.rd ETy.u8 v.out), (SV.v (Value.bool v.halted)), (SV.v (Value.int IntKind.i64 (IntKind.wrap IntKind.i64 (v.done + (1 : Int))))), (SV.rd ETy.event (List.append v.log seen))]))
 else
 (Tree.fail))
 else
 (Tree.fail))))))
 else
 (Tree.leaf (SV.agg [(SV.arr IntKind.u32 16 x0.regs), (SV.v (Value.int IntKind.u32 x0.pc)), (SV.arr IntKind.u32 12 x0.csr), (SV.rd ETy.u8 v.out), (SV.v (Value.bool v.halted)), (SV.v (Value.int IntKind.i64 (IntKind.wrap IntKind.i64 (v.done + (1 : Int))))), (SV.rd ETy.event v.log)]))) := by kernel_rfl
section
attribute [local irreducible] evF evFL evFLs
theorem a_vtrap_enter (v : PVcpu) (t : PTrap) (seen : List PEvent) (hpre : seen.length = 0) (ok_v : okVcpu v) (ok_t : okTrap t) (ok_seen : okEvents seen) : (evF E_vtrap_enter 60 93 (encArgs [.vcpu, .trap, .rd .event] (v, t, seen, ()))).ends fun out_ => decO [.vcpu] out_ = some ({ core := K.enter v.core t, out := v.out, halted := v.halted, done := K.inc v.done, log := v.log }) := by
  rw [t_vtrap_enter, Tree.ends_holds]
  simp only [Tree.holds_loop, Tree.holds_fork, Tree.holds_next, if_true, Tree.holds_cond, Tree.holds_letv, Tree.holds_leaf, Tree.holds_fail, decO, decA, decTup, decMach, decCore, decTrap, decInstr, decPart, decGuest, decConf, decEvent, decVcpu, decStep, bytesS, boolS, eventsS, intsS, guestsS, vcpusS, rowS, castL, Option.bind_some, Option.map_some, Option.some.injEq, Nat.beq_refl, beq_self_eq_true, Bool.and_self, cond_true, cond_false, eq_self, beq_iff_eq, beq_eq_false_iff_ne, bne_iff_ne, bne_eq_false_iff_eq, ne_eq, decide_eq_true_eq, decide_eq_false_iff_not, ble_true, ble_false, inRange_iff, inRange_false, wrap_inc ok_v.done]
  repeat' (first | refine drop_ok ?_ | intro _ | with_reducible apply And.intro)
  all_goals first | omega | (simp_all; done)
  
theorem c_vtrap_enter : SpecOk EB 93 S_vtrap_enter := spec_sig ok_vtrap_enter (n := 60) fun ⟨v, t, seen, ⟨⟩⟩ h hok => a_vtrap_enter v t seen (of_decide_eq_true h) (ok_vcpu (okSL_head hok)) (ok_trap (okSL_head (okSL_tail hok))) (ok_events (okSL_head (okSL_tail (okSL_tail hok))))
end

/-! vtrap_Reflect -/

def S_vtrap_Reflect : Spec := sig [.vcpu, .trap] [.vcpu] (fun (v, t, _) => K.reflect v t)
noncomputable def E_vtrap_Reflect : Env := EB.adds [(93, S_vtrap_enter)]

theorem ok_vtrap_Reflect : EnvOk E_vtrap_Reflect := okEB.adds (l := _) ⟨c_vtrap_enter, trivial⟩

theorem t_vtrap_Reflect (v : PVcpu) (t : PTrap) : evF E_vtrap_Reflect 60 109 (encArgs [.vcpu, .trap] (v, t, ())) = 
 bif (BEq.beq t.cause (0 : Int)) then
 (Tree.leaf (SV.agg [(SV.arr IntKind.u32 16 v.core.regs), (SV.v (Value.int IntKind.u32 v.core.pc)), (SV.arr IntKind.u32 12 v.core.csr), (SV.rd ETy.u8 v.out), (SV.v (Value.bool v.halted)), (SV.v (Value.int IntKind.i64 v.done)), (SV.rd ETy.event v.log)]))
 else
 (Tree.letv (okO [AT.vcpu]) (PVcpu.mk (K.enter v.core t) v.out v.halted (K.inc v.done) v.log) fun x0 =>
 (Tree.leaf (SV.agg [(SV.arr IntKind.u32 16 x0.core.regs), (SV.v (Value.int IntKind.u32 x0.core.pc)), (SV.arr IntKind.u32 12 x0.core.csr), (SV.rd ETy.u8 x0.out), (SV.v (Value.bool x0.halted)), (SV.v (Value.int IntKind.i64 x0.done)), (SV.rd ETy.event x0.log)]))) := by kernel_rfl
section
attribute [local irreducible] evF evFL evFLs
theorem a_vtrap_Reflect (v : PVcpu) (t : PTrap) (ok_v : okVcpu v) (ok_t : okTrap t) : (evF E_vtrap_Reflect 60 109 (encArgs [.vcpu, .trap] (v, t, ()))).ends fun out_ => decO [.vcpu] out_ = some (K.reflect v t) := by
  rw [t_vtrap_Reflect, Tree.ends_holds]
  simp only [Tree.holds_loop, Tree.holds_fork, Tree.holds_next, if_true, Tree.holds_cond, Tree.holds_letv, Tree.holds_leaf, Tree.holds_fail, decO, decA, decTup, decMach, decCore, decTrap, decInstr, decPart, decGuest, decConf, decEvent, decVcpu, decStep, bytesS, boolS, eventsS, intsS, guestsS, vcpusS, rowS, castL, Option.bind_some, Option.map_some, Option.some.injEq, Nat.beq_refl, beq_self_eq_true, Bool.and_self, cond_true, cond_false, eq_self, beq_iff_eq, beq_eq_false_iff_ne, bne_iff_ne, bne_eq_false_iff_eq, ne_eq, decide_eq_true_eq, decide_eq_false_iff_not, ble_true, ble_false, inRange_iff, inRange_false, K.reflect]
  repeat' (first | refine drop_ok ?_ | intro _ | with_reducible apply And.intro)
  all_goals first | omega | (simp_all; done)
  
theorem c_vtrap_Reflect : SpecOk EB 109 S_vtrap_Reflect := spec_sig ok_vtrap_Reflect (n := 60) fun ⟨v, t, ⟨⟩⟩ h hok => a_vtrap_Reflect v t (ok_vcpu (okSL_head hok)) (ok_trap (okSL_head (okSL_tail hok)))
end

/-! handler_Handle -/

def S_handler_Handle : Spec := sig [.vcpu, .trap, .i .u64] [.vcpu] (fun (v, t, time, _) => K.handle v t time) (pre := fun (v, t, time, _) => decide (v.out.length ≤ 1099511627776 ∧ v.log.length ≤ 1099511627776))
noncomputable def E_handler_Handle : Env := EB_0_1.adds [(102, S_handler_IsMonitorTrap), (104, S_emul_CanEmulate), (106, S_emul_Emulate), (109, S_vtrap_Reflect)]

theorem ok_handler_Handle : EnvOk E_handler_Handle := okEB_0_1.adds (l := _) ⟨(up_to_0_1 c_handler_IsMonitorTrap), c_emul_CanEmulate, c_emul_Emulate, (up_to_0_1 c_vtrap_Reflect), trivial⟩

theorem t_handler_Handle (v : PVcpu) (t : PTrap) (time : Int) : evF E_handler_Handle 60 35 (encArgs [.vcpu, .trap, .i .u64] (v, t, time, ())) = 
 Tree.letv (okO [AT.b]) (K.ours t) fun x0 =>
 (bif x0 then
 (Tree.leaf (SV.agg [(SV.arr IntKind.u32 16 v.core.regs), (SV.v (Value.int IntKind.u32 v.core.pc)), (SV.arr IntKind.u32 12 v.core.csr), (SV.rd ETy.u8 v.out), (SV.v (Value.bool v.halted)), (SV.v (Value.int IntKind.i64 v.done)), (SV.rd ETy.event v.log)]))
 else
 (Tree.letv (okO [AT.b]) (K.can v t) fun x1 =>
 (bif x1 then
 (bif (decide (And ((List.length v.out) ≤ 1099511627776) ((List.length v.log) ≤ 1099511627776))) then
 (Tree.letv (okO [AT.vcpu]) (K.emu v t.tval time) fun x2 =>
 (Tree.leaf (SV.agg [(SV.arr IntKind.u32 16 x2.core.regs), (SV.v (Value.int IntKind.u32 x2.core.pc)), (SV.arr IntKind.u32 12 x2.core.csr), (SV.rd ETy.u8 x2.out), (SV.v (Value.bool x2.halted)), (SV.v (Value.int IntKind.i64 x2.done)), (SV.rd ETy.event x2.log)])))
 else
 (Tree.fail))
 else
 (Tree.letv (okO [AT.vcpu]) (K.reflect v t) fun x2 =>
 (Tree.leaf (SV.agg [(SV.arr IntKind.u32 16 x2.core.regs), (SV.v (Value.int IntKind.u32 x2.core.pc)), (SV.arr IntKind.u32 12 x2.core.csr), (SV.rd ETy.u8 x2.out), (SV.v (Value.bool x2.halted)), (SV.v (Value.int IntKind.i64 x2.done)), (SV.rd ETy.event x2.log)])))))) := by kernel_rfl
section
attribute [local irreducible] evF evFL evFLs
theorem a_handler_Handle (v : PVcpu) (t : PTrap) (time : Int) (hpre : v.out.length ≤ 1099511627776 ∧ v.log.length ≤ 1099511627776) (ok_v : okVcpu v) (ok_t : okTrap t) (ok_time : okI .u64 time) : (evF E_handler_Handle 60 35 (encArgs [.vcpu, .trap, .i .u64] (v, t, time, ()))).ends fun out_ => decO [.vcpu] out_ = some (K.handle v t time) := by
  rw [t_handler_Handle, Tree.ends_holds]
  simp only [Tree.holds_loop, Tree.holds_fork, Tree.holds_next, if_true, Tree.holds_cond, Tree.holds_letv, Tree.holds_leaf, Tree.holds_fail, decO, decA, decTup, decMach, decCore, decTrap, decInstr, decPart, decGuest, decConf, decEvent, decVcpu, decStep, bytesS, boolS, eventsS, intsS, guestsS, vcpusS, rowS, castL, Option.bind_some, Option.map_some, Option.some.injEq, Nat.beq_refl, beq_self_eq_true, Bool.and_self, cond_true, cond_false, eq_self, beq_iff_eq, beq_eq_false_iff_ne, bne_iff_ne, bne_eq_false_iff_eq, ne_eq, decide_eq_true_eq, decide_eq_false_iff_not, ble_true, ble_false, inRange_iff, inRange_false, K.handle]
  repeat' (first | refine drop_ok ?_ | intro _ | with_reducible apply And.intro)
  all_goals first | omega | (simp_all; done)
  
theorem c_handler_Handle : SpecOk EB_0_1 35 S_handler_Handle := spec_sig ok_handler_Handle (n := 60) fun ⟨v, t, time, ⟨⟩⟩ h hok => a_handler_Handle v t time (of_decide_eq_true h) (ok_vcpu (okSL_head hok)) (ok_trap (okSL_head (okSL_tail hok))) (ok_int (okSL_head (okSL_tail (okSL_tail hok))))
end

/-! save_ClearRegisters -/

def S_save_ClearRegisters : Spec := sig [.mach] [.mach] (fun (host, _) => K.clear host)
noncomputable def E_save_ClearRegisters : Env := EB.adds [(62, S_regs_ClearZero)]

theorem ok_save_ClearRegisters : EnvOk E_save_ClearRegisters := okEB.adds (l := _) ⟨c_regs_ClearZero, trivial⟩

theorem t_save_ClearRegisters (host : PMach) : evF E_save_ClearRegisters 60 36 (encArgs [.mach] (host, ())) = 
 Tree.letv (okO [(AT.a IntKind.u32 16)]) [(0 : Int), (0 : Int), (0 : Int), (0 : Int), (0 : Int), (0 : Int), (0 : Int), (0 : Int), (0 : Int), (0 : Int), (0 : Int), (0 : Int), (0 : Int), (0 : Int), (0 : Int), (0 : Int)] fun x0 =>
 (Tree.leaf (SV.agg [(SV.arr IntKind.u32 16 x0), (SV.v (Value.int IntKind.u32 (0 : Int))), (SV.arr IntKind.u32 12 host.core.csr), (SV.rd ETy.u8 host.mem), (SV.v (Value.int IntKind.u64 host.time)), (SV.rd ETy.u8 host.out), (SV.v (Value.bool host.halted))])) := by kernel_rfl
section
attribute [local irreducible] evF evFL evFLs
theorem a_save_ClearRegisters (host : PMach) (ok_host : okMach host) : (evF E_save_ClearRegisters 60 36 (encArgs [.mach] (host, ()))).ends fun out_ => decO [.mach] out_ = some (K.clear host) := by
  rw [t_save_ClearRegisters, Tree.ends_holds]
  simp only [Tree.holds_loop, Tree.holds_fork, Tree.holds_next, if_true, Tree.holds_cond, Tree.holds_letv, Tree.holds_leaf, Tree.holds_fail, decO, decA, decTup, decMach, decCore, decTrap, decInstr, decPart, decGuest, decConf, decEvent, decVcpu, decStep, bytesS, boolS, eventsS, intsS, guestsS, vcpusS, rowS, castL, Option.bind_some, Option.map_some, Option.some.injEq, Nat.beq_refl, beq_self_eq_true, Bool.and_self, cond_true, cond_false, eq_self, beq_iff_eq, beq_eq_false_iff_ne, bne_iff_ne, bne_eq_false_iff_eq, ne_eq, decide_eq_true_eq, decide_eq_false_iff_not, ble_true, ble_false, inRange_iff, inRange_false, K.clear]
  repeat' (first | refine drop_ok ?_ | intro _ | with_reducible apply And.intro)
  all_goals first | trivial | rfl | (simp_all; done) | trace_state
  
theorem c_save_ClearRegisters : SpecOk EB 36 S_save_ClearRegisters := spec_sig ok_save_ClearRegisters (n := 60) fun ⟨host, ⟨⟩⟩ h hok => a_save_ClearRegisters host (ok_mach (okSL_head hok))
end

/-! timeslice_Run -/
@[reducible] def L_Run (host : PMach) (v : PVcpu) (p : PPart) (q : Int) : LoopSpec where
  σ := PMach × PVcpu × Nat
  slots := [4, 5, 6, 8, 9, 10]
  keys := [4, 5, 6, 8, 9]
  vals := fun x => [.loc 0 0 0 1, .loc 1 0 0 1, .loc 2 0 0 1, .loc 3 0 0 1, .loc 4 0 0 1, .v (.int .u64 (K.deadline host q))]
  blks := fun x => [.cells (machC x.1) 30, .cells (vcpuC x.2.1) 33, .cells (partC p) 35, .cells [.arr .u32 16 [0, 0, 0, 0, 0, 0, 0, 0, 0, 0, 0, 0, 0, 0, 0, 0], .v (.int .u32 0), .arr .u32 12 [0, 0, 0, 0, 0, 0, 0, 0, 0, 0, 0, 0], .v (.slice none 0 0), .v (.int .u64 0), .v (.slice none 0 0), .b false] 30, .cells [.arr .u32 16 [0, 0, 0, 0, 0, 0, 0, 0, 0, 0, 0, 0, 0, 0, 0, 0], .v (.int .u32 0), .arr .u32 12 [0, 0, 0, 0, 0, 0, 0, 0, 0, 0, 0, 0], .v (.slice none 0 0), .b false, .v (.int .i64 0), .v (.slice none 0 0)] 33]
  inv := fun x => K.RunInv host v p q x.1 x.2.1 x.2.2
  mu := fun x => 1000 - x.2.2
def S_timeslice_Run : Spec := sig [.mach, .vcpu, .part, .i .i64] [.mach, .vcpu] (fun (host, v, p, q, _) => K.slice host v p q) (pre := fun (host, v, p, q, _) => decide (host.halted = false ∧ host.mem.length ≤ 1073741824 ∧ host.out.length ≤ 1073741824 ∧ v.out.length ≤ 1073741824 ∧ v.log.length ≤ 1073741824 ∧ host.time ≤ 4611686018427387904 ∧ q ≤ 60 ∧ p.base + p.size ≤ host.mem.length))
noncomputable def E_timeslice_Run : Env := EB_0_1_2.adds [(15, S_timeslice_Deadline), (30, S_vtimer_DeliverPending), (33, S_vtimer_Alarm), (32, S_shadow_Dispatch), (31, S_timeslice_until), (34, S_save_Save), (35, S_handler_Handle), (36, S_save_ClearRegisters)]

theorem ok_timeslice_Run : EnvOk E_timeslice_Run := okEB_0_1_2.adds (l := _) ⟨(up_to_0_1_2 c_timeslice_Deadline), (up_to_0_1_2 c_vtimer_DeliverPending), (up_to_0_1_2 c_vtimer_Alarm), (up_to_0_1_2 c_shadow_Dispatch), c_timeslice_until, (up_to_0_1_2 c_save_Save), (up_0_1_to_0_1_2 c_handler_Handle), (up_to_0_1_2 c_save_ClearRegisters), trivial⟩

theorem t_timeslice_Run (host : PMach) (v : PVcpu) (p : PPart) (q : Int) : evFL E_timeslice_Run (fun _ => some (L_Run host v p q)) 60 11 (encArgs [.mach, .vcpu, .part, .i .i64] (host, v, p, q, ())) = 
 Tree.letv (okO [(AT.i IntKind.u64)]) (K.deadline host q) fun x0 =>
 (Tree.loop 0 (L_Run host v p q) [(SV.loc 0 0 0 1), (SV.loc 1 0 0 1), (SV.loc 2 0 0 1), (SV.loc 3 0 0 1), (SV.loc 4 0 0 1), (SV.v (Value.int IntKind.u64 x0))] [(Blk.cells [(SV.arr IntKind.u32 16 host.core.regs), (SV.v (Value.int IntKind.u32 host.core.pc)), (SV.arr IntKind.u32 12 host.core.csr), (SV.rd ETy.u8 host.mem), (SV.v (Value.int IntKind.u64 host.time)), (SV.rd ETy.u8 host.out), (SV.v (Value.bool host.halted))] 30), (Blk.cells [(SV.arr IntKind.u32 16 v.core.regs), (SV.v (Value.int IntKind.u32 v.core.pc)), (SV.arr IntKind.u32 12 v.core.csr), (SV.rd ETy.u8 v.out), (SV.v (Value.bool v.halted)), (SV.v (Value.int IntKind.i64 v.done)), (SV.rd ETy.event v.log)] 33), (Blk.cells [(SV.v (Value.int IntKind.u32 p.base)), (SV.v (Value.int IntKind.u32 p.size))] 35), (Blk.cells [(SV.arr IntKind.u32 16 [(0 : Int), (0 : Int), (0 : Int), (0 : Int), (0 : Int), (0 : Int), (0 : Int), (0 : Int), (0 : Int), (0 : Int), (0 : Int), (0 : Int), (0 : Int), (0 : Int), (0 : Int), (0 : Int)]), (SV.v (Value.int IntKind.u32 (0 : Int))), (SV.arr IntKind.u32 12 [(0 : Int), (0 : Int), (0 : Int), (0 : Int), (0 : Int), (0 : Int), (0 : Int), (0 : Int), (0 : Int), (0 : Int), (0 : Int), (0 : Int)]), (SV.v (Value.slice Option.none 0 0)), (SV.v (Value.int IntKind.u64 (0 : Int))), (SV.v (Value.slice Option.none 0 0)), (SV.b false)] 30), (Blk.cells [(SV.arr IntKind.u32 16 [(0 : Int), (0 : Int), (0 : Int), (0 : Int), (0 : Int), (0 : Int), (0 : Int), (0 : Int), (0 : Int), (0 : Int), (0 : Int), (0 : Int), (0 : Int), (0 : Int), (0 : Int), (0 : Int)]), (SV.v (Value.int IntKind.u32 (0 : Int))), (SV.arr IntKind.u32 12 [(0 : Int), (0 : Int), (0 : Int), (0 : Int), (0 : Int), (0 : Int), (0 : Int), (0 : Int), (0 : Int), (0 : Int), (0 : Int), (0 : Int)]), (SV.v (Value.slice Option.none 0 0)), (SV.b false), (SV.v (Value.int IntKind.i64 (0 : Int))), (SV.v (Value.slice Option.none 0 0))] 33)] fun (x1 : (Prod PMach (Prod PVcpu Nat))) =>
 (bif x1.snd.fst.halted then
 (Tree.letv (okO [AT.mach]) (K.clear x1.fst) fun x2 =>
 (Tree.leaf (SV.tup [(SV.agg [(SV.arr IntKind.u32 16 x2.core.regs), (SV.v (Value.int IntKind.u32 x2.core.pc)), (SV.arr IntKind.u32 12 (List.set x2.core.csr 0 (1 : Int))), (SV.rd ETy.u8 x2.mem), (SV.v (Value.int IntKind.u64 x2.time)), (SV.rd ETy.u8 x2.out), (SV.v (Value.bool x2.halted))]), (SV.agg [(SV.arr IntKind.u32 16 x1.snd.fst.core.regs), (SV.v (Value.int IntKind.u32 x1.snd.fst.core.pc)), (SV.arr IntKind.u32 12 x1.snd.fst.core.csr), (SV.rd ETy.u8 x1.snd.fst.out), (SV.v (Value.bool x1.snd.fst.halted)), (SV.v (Value.int IntKind.i64 x1.snd.fst.done)), (SV.rd ETy.event x1.snd.fst.log)])])))
 else
 (bif (decide (x1.fst.time ≥ (K.deadline host q))) then
 (Tree.letv (okO [AT.mach]) (K.clear x1.fst) fun x2 =>
 (Tree.leaf (SV.tup [(SV.agg [(SV.arr IntKind.u32 16 x2.core.regs), (SV.v (Value.int IntKind.u32 x2.core.pc)), (SV.arr IntKind.u32 12 (List.set x2.core.csr 0 (1 : Int))), (SV.rd ETy.u8 x2.mem), (SV.v (Value.int IntKind.u64 x2.time)), (SV.rd ETy.u8 x2.out), (SV.v (Value.bool x2.halted))]), (SV.agg [(SV.arr IntKind.u32 16 x1.snd.fst.core.regs), (SV.v (Value.int IntKind.u32 x1.snd.fst.core.pc)), (SV.arr IntKind.u32 12 x1.snd.fst.core.csr), (SV.rd ETy.u8 x1.snd.fst.out), (SV.v (Value.bool x1.snd.fst.halted)), (SV.v (Value.int IntKind.i64 x1.snd.fst.done)), (SV.rd ETy.event x1.snd.fst.log)])])))
 else
 (bif (decide ((List.length x1.snd.fst.log) ≤ 1099511627776)) then
 (Tree.letv (okO [AT.vcpu, AT.b]) (K.deliver x1.snd.fst x1.fst.time) fun x2 =>
 (bif x2.snd then
 ((Tree.next 0 [(SV.loc 0 0 0 1), (SV.loc 1 0 0 1), (SV.loc 2 0 0 1), (SV.loc 3 0 0 1), (SV.loc 4 0 0 1), (SV.v (Value.int IntKind.u64 (K.deadline host q)))] [(Blk.cells [(SV.arr IntKind.u32 16 x1.fst.core.regs), (SV.v (Value.int IntKind.u32 x1.fst.core.pc)), (SV.arr IntKind.u32 12 x1.fst.core.csr), (SV.rd ETy.u8 x1.fst.mem), (SV.v (Value.int IntKind.u64 x1.fst.time)), (SV.rd ETy.u8 x1.fst.out), (SV.v (Value.bool x1.fst.halted))] 30), (Blk.cells [(SV.arr IntKind.u32 16 x2.fst.core.regs), (SV.v (Value.int IntKind.u32 x2.fst.core.pc)), (SV.arr IntKind.u32 12 x2.fst.core.csr), (SV.rd ETy.u8 x2.fst.out), (SV.v (Value.bool x2.fst.halted)), (SV.v (Value.int IntKind.i64 x2.fst.done)), (SV.rd ETy.event x2.fst.log)] 33), (Blk.cells [(SV.v (Value.int IntKind.u32 p.base)), (SV.v (Value.int IntKind.u32 p.size))] 35), (Blk.cells [(SV.arr IntKind.u32 16 [(0 : Int), (0 : Int), (0 : Int), (0 : Int), (0 : Int), (0 : Int), (0 : Int), (0 : Int), (0 : Int), (0 : Int), (0 : Int), (0 : Int), (0 : Int), (0 : Int), (0 : Int), (0 : Int)]), (SV.v (Value.int IntKind.u32 (0 : Int))), (SV.arr IntKind.u32 12 [(0 : Int), (0 : Int), (0 : Int), (0 : Int), (0 : Int), (0 : Int), (0 : Int), (0 : Int), (0 : Int), (0 : Int), (0 : Int), (0 : Int)]), (SV.v (Value.slice Option.none 0 0)), (SV.v (Value.int IntKind.u64 (0 : Int))), (SV.v (Value.slice Option.none 0 0)), (SV.b false)] 30), (Blk.cells [(SV.arr IntKind.u32 16 [(0 : Int), (0 : Int), (0 : Int), (0 : Int), (0 : Int), (0 : Int), (0 : Int), (0 : Int), (0 : Int), (0 : Int), (0 : Int), (0 : Int), (0 : Int), (0 : Int), (0 : Int), (0 : Int)]), (SV.v (Value.int IntKind.u32 (0 : Int))), (SV.arr IntKind.u32 12 [(0 : Int), (0 : Int), (0 : Int), (0 : Int), (0 : Int), (0 : Int), (0 : Int), (0 : Int), (0 : Int), (0 : Int), (0 : Int), (0 : Int)]), (SV.v (Value.slice Option.none 0 0)), (SV.b false), (SV.v (Value.int IntKind.i64 (0 : Int))), (SV.v (Value.slice Option.none 0 0))] 33)]))
 else
 (Tree.letv (okO [(AT.i IntKind.u64)]) (K.alarm x1.snd.fst (K.deadline host q)) fun x3 =>
 (Tree.letv (okO [AT.mach]) (K.dispatch x1.fst x1.snd.fst p x3) fun x4 =>
 (bif (decide (And ((K.stops x4) = true) (And ((K.super x4.core) = false) (And (x4.halted = false) (And ((List.length x4.mem) ≤ 1099511627776) ((List.length x4.out) ≤ 1099511627776)))))) then
 (Tree.letv (okO [AT.mach, (AT.i IntKind.i64), AT.trap, (AT.i IntKind.u64)]) (K.until x4) fun x5 =>
 (Tree.letv (okO [AT.vcpu]) (K.save x5.fst x1.snd.fst) fun x6 =>
 (bif (decide (And ((List.length x6.out) ≤ 1099511627776) ((List.length x6.log) ≤ 1099511627776))) then
 (Tree.letv (okO [AT.vcpu]) (K.handle (PVcpu.mk x6.core x6.out x6.halted (IntKind.wrap IntKind.i64 (x6.done + x5.snd.fst)) x6.log) x5.snd.snd.fst x5.snd.snd.snd) fun x7 =>
 ((Tree.next 0 [(SV.loc 0 0 0 1), (SV.loc 1 0 0 1), (SV.loc 2 0 0 1), (SV.loc 3 0 0 1), (SV.loc 4 0 0 1), (SV.v (Value.int IntKind.u64 (K.deadline host q)))] [(Blk.cells [(SV.arr IntKind.u32 16 x5.fst.core.regs), (SV.v (Value.int IntKind.u32 x5.fst.core.pc)), (SV.arr IntKind.u32 12 x5.fst.core.csr), (SV.rd ETy.u8 x5.fst.mem), (SV.v (Value.int IntKind.u64 x5.fst.time)), (SV.rd ETy.u8 x5.fst.out), (SV.v (Value.bool x5.fst.halted))] 30), (Blk.cells [(SV.arr IntKind.u32 16 x7.core.regs), (SV.v (Value.int IntKind.u32 x7.core.pc)), (SV.arr IntKind.u32 12 x7.core.csr), (SV.rd ETy.u8 x7.out), (SV.v (Value.bool x7.halted)), (SV.v (Value.int IntKind.i64 x7.done)), (SV.rd ETy.event x7.log)] 33), (Blk.cells [(SV.v (Value.int IntKind.u32 p.base)), (SV.v (Value.int IntKind.u32 p.size))] 35), (Blk.cells [(SV.arr IntKind.u32 16 [(0 : Int), (0 : Int), (0 : Int), (0 : Int), (0 : Int), (0 : Int), (0 : Int), (0 : Int), (0 : Int), (0 : Int), (0 : Int), (0 : Int), (0 : Int), (0 : Int), (0 : Int), (0 : Int)]), (SV.v (Value.int IntKind.u32 (0 : Int))), (SV.arr IntKind.u32 12 [(0 : Int), (0 : Int), (0 : Int), (0 : Int), (0 : Int), (0 : Int), (0 : Int), (0 : Int), (0 : Int), (0 : Int), (0 : Int), (0 : Int)]), (SV.v (Value.slice Option.none 0 0)), (SV.v (Value.int IntKind.u64 (0 : Int))), (SV.v (Value.slice Option.none 0 0)), (SV.b false)] 30), (Blk.cells [(SV.arr IntKind.u32 16 [(0 : Int), (0 : Int), (0 : Int), (0 : Int), (0 : Int), (0 : Int), (0 : Int), (0 : Int), (0 : Int), (0 : Int), (0 : Int), (0 : Int), (0 : Int), (0 : Int), (0 : Int), (0 : Int)]), (SV.v (Value.int IntKind.u32 (0 : Int))), (SV.arr IntKind.u32 12 [(0 : Int), (0 : Int), (0 : Int), (0 : Int), (0 : Int), (0 : Int), (0 : Int), (0 : Int), (0 : Int), (0 : Int), (0 : Int), (0 : Int)]), (SV.v (Value.slice Option.none 0 0)), (SV.b false), (SV.v (Value.int IntKind.i64 (0 : Int))), (SV.v (Value.slice Option.none 0 0))] 33)])))
 else
 (Tree.fail))))
 else
 (Tree.fail))))))
 else
 (Tree.fail))))) := by kernel_rfl
section
attribute [local irreducible] evF evFL evFLs
theorem a_timeslice_Run (host : PMach) (v : PVcpu) (p : PPart) (q : Int) (hpre : host.halted = false ∧ host.mem.length ≤ 1073741824 ∧ host.out.length ≤ 1073741824 ∧ v.out.length ≤ 1073741824 ∧ v.log.length ≤ 1073741824 ∧ host.time ≤ 4611686018427387904 ∧ q ≤ 60 ∧ p.base + p.size ≤ host.mem.length) (ok_host : okMach host) (ok_v : okVcpu v) (ok_p : okPart p) (ok_q : okI .i64 q) : (evFL E_timeslice_Run (fun _ => some (L_Run host v p q)) 60 11 (encArgs [.mach, .vcpu, .part, .i .i64] (host, v, p, q, ()))).ends fun out_ => decO [.mach, .vcpu] out_ = some (K.slice host v p q) := by
  rw [t_timeslice_Run, Tree.ends_holds]
  obtain ⟨hp1, hp2, hp3, hp4, hp5, hp6, hp7, hp8⟩ := hpre
  obtain ⟨p0, p1⟩ := okI_u32 ok_p.base
  obtain ⟨q0, q1⟩ := okI_u32 ok_p.size
  obtain ⟨h0, h1⟩ := okI_u64 ok_host.time
  have hdl : K.deadline host q = host.time + max q 1 := by unfold K.deadline; omega
  have hde : K.deadline host q ≤ host.time + 60 := by omega
  rw [Tree.holds_letv]
  intro _
  rw [Tree.holds_loop]
  have start : K.RunInv host v p q host v 0 := ⟨ok_host, ok_v, rfl, hp1, rfl, rfl, by omega, by omega, Int.le_refl _, by split <;> omega⟩
  refine ⟨⟨((host, v, 0) : PMach × PVcpu × Nat), rfl, rfl, start, trivial⟩, fun (x : PMach × PVcpu × Nat) hx => ?_⟩
  obtain ⟨h, w, j⟩ := x
  have I : K.RunInv host v p q h w j := hx
  clear hx
  have at_ : ∀ (h' : PMach) (w' : PVcpu), j < 1000 → K.RunInv host v p q h' w' (j + 1) → (L_Run host v p q).at (fun y => (L_Run host v p q).mu y < (L_Run host v p q).mu (h, w, j)) [.loc 0 0 0 1, .loc 1 0 0 1, .loc 2 0 0 1, .loc 3 0 0 1, .loc 4 0 0 1, .v (.int .u64 (K.deadline host q))]
      [.cells (machC h') 30, .cells (vcpuC w') 33, .cells (partC p) 35, .cells [.arr .u32 16 [0, 0, 0, 0, 0, 0, 0, 0, 0, 0, 0, 0, 0, 0, 0, 0], .v (.int .u32 0), .arr .u32 12 [0, 0, 0, 0, 0, 0, 0, 0, 0, 0, 0, 0], .v (.slice none 0 0), .v (.int .u64 0), .v (.slice none 0 0), .b false] 30, .cells [.arr .u32 16 [0, 0, 0, 0, 0, 0, 0, 0, 0, 0, 0, 0, 0, 0, 0, 0], .v (.int .u32 0), .arr .u32 12 [0, 0, 0, 0, 0, 0, 0, 0, 0, 0, 0, 0], .v (.slice none 0 0), .b false, .v (.int .i64 0), .v (.slice none 0 0)] 33] := fun h' w' hj I' => ⟨(h', w', j + 1), rfl, rfl, I', by show 1000 - (j + 1) < 1000 - j; omega⟩
  by_cases hx : w.halted = true ∨ h.time ≥ K.deadline host q
  · have hfin : K.turnF p (K.deadline host q) 1000 host v = (h, w) := by
      have e := I.eq
      rw [← e]
      generalize 1000 - j = f
      cases f with
      | zero => rfl
      | succ f => unfold K.turnF; rw [if_pos hx]
    have hs : K.slice host v p q = (⟨⟨List.replicate 16 0, 0, h.core.csr.set 0 1⟩, h.mem, h.time, h.out, h.halted⟩, w) := by unfold K.slice; rw [hfin]; rfl
    rcases hx with hx | hx
    · simp only [hx, cond_true, Tree.holds_loop, Tree.holds_fork, Tree.holds_next, if_true, Tree.holds_cond, Tree.holds_letv, Tree.holds_leaf, Tree.holds_fail, decO, decA, decTup, decMach, decCore, decTrap, decInstr, decPart, decGuest, decConf, decEvent, decVcpu, decStep, bytesS, boolS, eventsS, intsS, guestsS, vcpusS, rowS, castL, Option.bind_some, Option.map_some, Option.some.injEq, Nat.beq_refl, beq_self_eq_true, Bool.and_self, cond_true, cond_false, eq_self, beq_iff_eq, beq_eq_false_iff_ne, bne_iff_ne, bne_eq_false_iff_eq, ne_eq, decide_eq_true_eq, decide_eq_false_iff_not, ble_true, ble_false, inRange_iff, inRange_false, hs, K.clear]
      repeat' (first | refine drop_ok ?_ | intro _ | with_reducible apply And.intro)
      all_goals first | rfl | trivial | (cases w; simp only at hx; subst hx; rfl) | trace_state
    · have hd : decide (h.time ≥ K.deadline host q) = true := decide_eq_true hx
      simp only [hd, cond_true, Tree.holds_loop, Tree.holds_fork, Tree.holds_next, if_true, Tree.holds_cond, Tree.holds_letv, Tree.holds_leaf, Tree.holds_fail, decO, decA, decTup, decMach, decCore, decTrap, decInstr, decPart, decGuest, decConf, decEvent, decVcpu, decStep, bytesS, boolS, eventsS, intsS, guestsS, vcpusS, rowS, castL, Option.bind_some, Option.map_some, Option.some.injEq, Nat.beq_refl, beq_self_eq_true, Bool.and_self, cond_true, cond_false, eq_self, beq_iff_eq, beq_eq_false_iff_ne, bne_iff_ne, bne_eq_false_iff_eq, ne_eq, decide_eq_true_eq, decide_eq_false_iff_not, ble_true, ble_false, inRange_iff, inRange_false, hs, K.clear]
      repeat' (first | refine drop_ok ?_ | intro _ | with_reducible apply And.intro)
      all_goals first | rfl | trivial | trace_state
  · have hnh : w.halted = false := by cases hq : w.halted with
      | false => rfl
      | true => exact absurd (.inl hq) hx
    have hnt' : ¬ h.time ≥ K.deadline host q := fun q => hx (.inr q)
    have hnt : h.time < K.deadline host q := by omega
    have hm := I.meas
    have hti := I.time
    have hj : j < 1000 := by split at hm <;> omega
    have hj2 : j < 200 := by split at hm <;> omega
    have hvo := I.vout
    have hvl := I.vlog
    have hmm := I.mem
    have hoo := I.out
    have nx := fun o1 o2 => I.next hnh hnt p0 q0 (by omega) h0 hp6 hde o1 o2
    have hd : decide (h.time ≥ K.deadline host q) = false := decide_eq_false (by omega)
    simp only [hnh, hd, cond_false, Tree.holds_loop, Tree.holds_fork, Tree.holds_next, if_true, Tree.holds_cond, Tree.holds_letv, Tree.holds_leaf, Tree.holds_fail, decO, decA, decTup, decMach, decCore, decTrap, decInstr, decPart, decGuest, decConf, decEvent, decVcpu, decStep, bytesS, boolS, eventsS, intsS, guestsS, vcpusS, rowS, castL, Option.bind_some, Option.map_some, Option.some.injEq, Nat.beq_refl, beq_self_eq_true, Bool.and_self, cond_true, cond_false, eq_self, beq_iff_eq, beq_eq_false_iff_ne, bne_iff_ne, bne_eq_false_iff_eq, ne_eq, decide_eq_true_eq, decide_eq_false_iff_not, ble_true, ble_false, inRange_iff, inRange_false]
    by_cases hp : K.pending w h.time = true
    · have e : K.turn1 h w p (K.deadline host q) = (h, K.inject w h.time) := by unfold K.turn1; rw [if_pos hp]
      rw [e] at nx
      have e2 : K.deliver w h.time = (K.inject w h.time, true) := by unfold K.deliver; rw [if_pos hp]
      rw [e2]
      refine ⟨fun _ => fun hok => ⟨fun _ => ?_, fun hq => Bool.noConfusion hq⟩, fun hq => ?_⟩
      · exact at_ h (K.inject w h.time) hj (nx I.ok1 (ok_vcpu (show okS (encA .vcpu (K.inject w h.time)) from hok _ (List.mem_cons_self))))
      · omega
    · have e2 : K.deliver w h.time = (w, false) := by unfold K.deliver; rw [if_neg hp]
      rw [e2]
      obtain ⟨t5, _⟩ := I.ok2.core.csr.u32 (i := 5) (by omega)
      obtain ⟨t6, _⟩ := I.ok2.core.csr.u32 (i := 6) (by omega)
      obtain ⟨t9, _⟩ := I.ok2.core.csr.u32 (i := 9) (by omega)
      obtain ⟨t10, _⟩ := I.ok2.core.csr.u32 (i := 10) (by omega)
      have hcm : 0 ≤ K.cmp w.core.csr := by unfold K.cmp; omega
      obtain ⟨h', m, u, m0, ht, he, hz, e1, es⟩ := turn1_run (host := h) (v := w) (p := p) (end_ := K.deadline host q) I.ok1.core.csr.1 p0 q0 (by omega) t5 t6 hcm I.go (by omega) hnt (by omega) (by omega)
      have e : K.turn1 h w p (K.deadline host q) = ((K.step h').1, K.handle { K.save (K.step h').1 w with done := IntKind.i64.wrap (w.done + m) } (K.step h').2 h'.time) := by unfold K.turn1; rw [if_neg hp, e1]
      rw [e] at nx
      rw [e1]
      have du := dispatch_facts (host := h) (v := w) (p := p) (alarm := K.alarm w (K.deadline host q)) I.ok1.core.csr.1 p0 q0 (by omega) t5 t6 (by unfold K.alarm; split <;> omega) (by unfold K.alarm; split <;> omega)
      refine ⟨fun _ => fun _ => ⟨fun hq => Bool.noConfusion hq, fun _ => fun _ => fun _ => ⟨fun _ => fun hok1 => fun _ => ⟨fun _ => fun hok2 => ?_, fun hq => ?_⟩, fun hq => ?_⟩⟩, fun hq => ?_⟩
      · exact at_ (K.step h').1 (K.handle { K.save (K.step h').1 w with done := IntKind.i64.wrap (w.done + m) } (K.step h').2 h'.time) hj (nx (ok_mach (show okS (encA .mach (K.step h').1) from hok1 _ (List.mem_cons_self))) (ok_vcpu hok2))
      · exfalso; apply hq; exact ⟨by show w.out.length ≤ _; omega, by show w.log.length ≤ _; omega⟩
      · exfalso; apply hq; exact ⟨es, du.1, I.go, by show h.mem.length ≤ _; omega, by show h.out.length ≤ _; omega⟩
      · omega
  
theorem c_timeslice_Run : SpecOk EB_0_1_2 11 S_timeslice_Run := spec_sigL ok_timeslice_Run (n := 60) (fun (host, v, p, q, _) => fun _ => some (L_Run host v p q)) fun ⟨host, v, p, q, ⟨⟩⟩ h hok => a_timeslice_Run host v p q (of_decide_eq_true h) (ok_mach (okSL_head hok)) (ok_vcpu (okSL_head (okSL_tail hok))) (ok_part (okSL_head (okSL_tail (okSL_tail hok)))) (ok_int (okSL_head (okSL_tail (okSL_tail (okSL_tail hok)))))
end

/-! ref05_Same -/
@[reducible] def L_ref05_Same (a b : List Int) : LoopSpec where
  σ := Nat
  slots := [0, 1, 4, 5]
  keys := []
  vals := fun j => [.rd .u8 a, .rd .u8 b, .b false, .v (.int .i64 (j : Int))]
  blks := fun _ => []
  inv := fun j => j ≤ a.length ∧ a.take j = b.take j
  mu := fun j => a.length - j
def S_ref05_Same : Spec := sig [.rd .u8, .rd .u8] [.b] (fun (a, b, _) => decide (a = b))
noncomputable def E_ref05_Same : Env := EB.adds []

theorem ok_ref05_Same : EnvOk E_ref05_Same := okEB.adds (l := _) trivial

theorem t_ref05_Same (a : List Int) (b : List Int) : evFL E_ref05_Same (fun _ => some (L_ref05_Same a b)) 60 21 (encArgs [.rd .u8, .rd .u8] (a, b, ())) = 
 bif (bne (Int.ofNat (List.length a)) (Int.ofNat (List.length b))) then
 (Tree.leaf (SV.b false))
 else
 (Tree.loop 0 (L_ref05_Same a b) [(SV.rd ETy.u8 a), (SV.rd ETy.u8 b), (SV.b false), (SV.v (Value.int IntKind.i64 (0 : Int)))] [] fun (x0 : Nat) =>
 (bif (decide ((Int.ofNat x0) < (Int.ofNat (List.length a)))) then
 (bif (inRange (Int.ofNat x0) (List.length a)) then
 (bif (inRange (Int.ofNat x0) (List.length b)) then
 (bif (bne (List.getD a (Int.toNat (Int.ofNat x0)) (0 : Int)) (List.getD b (Int.toNat (Int.ofNat x0)) (0 : Int))) then
 (Tree.leaf (SV.b false))
 else
 ((Tree.next 0 [(SV.rd ETy.u8 a), (SV.rd ETy.u8 b), (SV.b false), (SV.v (Value.int IntKind.i64 (IntKind.wrap IntKind.i64 ((Int.ofNat x0) + (1 : Int)))))] [])))
 else
 (Tree.fail))
 else
 (Tree.fail))
 else
 (Tree.leaf (SV.b true)))) := by kernel_rfl
section
attribute [local irreducible] evF evFL evFLs
theorem a_ref05_Same (a : List Int) (b : List Int) (ok_a : okBytes a) (ok_b : okBytes b) : (evFL E_ref05_Same (fun _ => some (L_ref05_Same a b)) 60 21 (encArgs [.rd .u8, .rd .u8] (a, b, ()))).ends fun out_ => decO [.b] out_ = some (decide (a = b)) := by
  rw [t_ref05_Same, Tree.ends_holds]
  simp only [Tree.holds_cond, Tree.holds_leaf, Tree.holds_loop]
  refine ⟨fun h => ?_, fun h => ?_⟩
  · have h : ¬ ((a.length : Int) = (b.length : Int)) := by simpa using h
    have : a ≠ b := fun e => h (by rw [e])
    simp [decO, decA, decTup, decMach, decCore, decTrap, decInstr, decPart, decGuest, decConf, decEvent, decVcpu, decStep, bytesS, boolS, eventsS, intsS, guestsS, vcpusS, rowS, castL, Option.bind_some, Option.map_some, Option.some.injEq, Nat.beq_refl, beq_self_eq_true, Bool.and_self, cond_true, cond_false, eq_self, this]
  have hl : (a.length : Int) = (b.length : Int) := by simpa using h
  have hl : a.length = b.length := by omega
  have hlim : a.length ≤ 140737488355328 := ok_a.1
  refine ⟨⟨(0 : Nat), rfl, rfl, ⟨Nat.zero_le _, rfl⟩, trivial⟩, fun (j : Nat) ⟨hj, he⟩ => ?_⟩
  simp only [Tree.holds_loop, Tree.holds_fork, Tree.holds_next, if_true, Tree.holds_cond, Tree.holds_letv, Tree.holds_leaf, Tree.holds_fail]
  refine ⟨fun h => ?_, fun h => ?_⟩
  · have hlt : j < a.length := by simpa using h
    have r1 : inRange (j : Int) a.length = true := inRange_iff.2 ⟨by omega, by omega⟩
    have r2 : inRange (j : Int) b.length = true := inRange_iff.2 ⟨by omega, by omega⟩
    have e2 : IntKind.i64.wrap ((j : Int) + 1) = ((j + 1 : Nat) : Int) := by rw [wrapI64 (by omega) (by omega)]; rfl
    have ga : a.getD j 0 = a[j] := by simp [hlt]
    have gb : b.getD j 0 = b[j]'(by omega) := by simp [show j < b.length by omega]
    simp only [Int.ofNat_eq_natCast, Int.toNat_natCast, r1, r2, ga, gb]
    simp only [true_implies, Bool.true_eq_false, false_implies, and_true]
    refine ⟨fun q => ?_, fun q => ?_⟩
    · have : a ≠ b := fun e => by subst e; simp at q
      simp [decO, decA, decTup, decMach, decCore, decTrap, decInstr, decPart, decGuest, decConf, decEvent, decVcpu, decStep, bytesS, boolS, eventsS, intsS, guestsS, vcpusS, rowS, castL, Option.bind_some, Option.map_some, Option.some.injEq, Nat.beq_refl, beq_self_eq_true, Bool.and_self, cond_true, cond_false, eq_self, this]
    · have q : a[j] = b[j]'(by omega) := by simpa using q
      refine ⟨j + 1, by rw [e2], rfl, ⟨by omega, ?_⟩, by show a.length - (j + 1) < a.length - j; omega⟩
      rw [List.take_succ_eq_append_getElem hlt, List.take_succ_eq_append_getElem (show j < b.length by omega), he, q]
  · have : j = a.length := by simp at h; omega
    subst this
    have : a = b := by rw [List.take_length] at he; rw [hl, List.take_length] at he; exact he
    simp [decO, decA, decTup, decMach, decCore, decTrap, decInstr, decPart, decGuest, decConf, decEvent, decVcpu, decStep, bytesS, boolS, eventsS, intsS, guestsS, vcpusS, rowS, castL, Option.bind_some, Option.map_some, Option.some.injEq, Nat.beq_refl, beq_self_eq_true, Bool.and_self, cond_true, cond_false, eq_self, this]
  
theorem c_ref05_Same : SpecOk EB 21 S_ref05_Same := spec_sigL ok_ref05_Same (n := 60) (fun (a, b, _) => fun _ => some (L_ref05_Same a b)) fun ⟨a, b, ⟨⟩⟩ h hok => a_ref05_Same a b (ok_bytes (okSL_head hok)) (ok_bytes (okSL_head (okSL_tail hok)))
end

/-! ref16_Events -/
@[reducible] def L_ref16_Events (a b : List PEvent) : LoopSpec where
  σ := Nat
  slots := [0, 1, 4, 5]
  keys := []
  vals := fun j => [.rd .event a, .rd .event b, .b false, .v (.int .i64 (j : Int))]
  blks := fun _ => []
  inv := fun j => j ≤ a.length ∧ a.take j = b.take j
  mu := fun j => a.length - j
def S_ref16_Events : Spec := sig [.rd .event, .rd .event] [.b] (fun (a, b, _) => decide (a = b))
noncomputable def E_ref16_Events : Env := EB.adds []

theorem ok_ref16_Events : EnvOk E_ref16_Events := okEB.adds (l := _) trivial

theorem t_ref16_Events (a : List PEvent) (b : List PEvent) : evFL E_ref16_Events (fun _ => some (L_ref16_Events a b)) 60 23 (encArgs [.rd .event, .rd .event] (a, b, ())) = 
 bif (bne (Int.ofNat (List.length a)) (Int.ofNat (List.length b))) then
 (Tree.leaf (SV.b false))
 else
 (Tree.loop 0 (L_ref16_Events a b) [(SV.rd ETy.event a), (SV.rd ETy.event b), (SV.b false), (SV.v (Value.int IntKind.i64 (0 : Int)))] [] fun (x0 : Nat) =>
 (bif (decide ((Int.ofNat x0) < (Int.ofNat (List.length a)))) then
 (bif (inRange (Int.ofNat x0) (List.length a)) then
 (bif (inRange (Int.ofNat x0) (List.length b)) then
 (bif (Bool.not (Bool.and (BEq.beq (List.getD a (Int.toNat (Int.ofNat x0)) (PEvent.mk (0 : Int) (0 : Int) (0 : Int))).kind (List.getD b (Int.toNat (Int.ofNat x0)) (PEvent.mk (0 : Int) (0 : Int) (0 : Int))).kind) (Bool.and (BEq.beq (List.getD a (Int.toNat (Int.ofNat x0)) (PEvent.mk (0 : Int) (0 : Int) (0 : Int))).at_ (List.getD b (Int.toNat (Int.ofNat x0)) (PEvent.mk (0 : Int) (0 : Int) (0 : Int))).at_) (Bool.and (BEq.beq (List.getD a (Int.toNat (Int.ofNat x0)) (PEvent.mk (0 : Int) (0 : Int) (0 : Int))).time (List.getD b (Int.toNat (Int.ofNat x0)) (PEvent.mk (0 : Int) (0 : Int) (0 : Int))).time) true)))) then
 (Tree.leaf (SV.b false))
 else
 ((Tree.next 0 [(SV.rd ETy.event a), (SV.rd ETy.event b), (SV.b false), (SV.v (Value.int IntKind.i64 (IntKind.wrap IntKind.i64 ((Int.ofNat x0) + (1 : Int)))))] [])))
 else
 (Tree.fail))
 else
 (Tree.fail))
 else
 (Tree.leaf (SV.b true)))) := by kernel_rfl
section
attribute [local irreducible] evF evFL evFLs
theorem a_ref16_Events (a : List PEvent) (b : List PEvent) (ok_a : okEvents a) (ok_b : okEvents b) : (evFL E_ref16_Events (fun _ => some (L_ref16_Events a b)) 60 23 (encArgs [.rd .event, .rd .event] (a, b, ()))).ends fun out_ => decO [.b] out_ = some (decide (a = b)) := by
  rw [t_ref16_Events, Tree.ends_holds]
  simp only [Tree.holds_cond, Tree.holds_leaf, Tree.holds_loop]
  refine ⟨fun h => ?_, fun h => ?_⟩
  · have h : ¬ ((a.length : Int) = (b.length : Int)) := by simpa using h
    have : a ≠ b := fun e => h (by rw [e])
    simp [decO, decA, decTup, decMach, decCore, decTrap, decInstr, decPart, decGuest, decConf, decEvent, decVcpu, decStep, bytesS, boolS, eventsS, intsS, guestsS, vcpusS, rowS, castL, Option.bind_some, Option.map_some, Option.some.injEq, Nat.beq_refl, beq_self_eq_true, Bool.and_self, cond_true, cond_false, eq_self, this]
  have hl : (a.length : Int) = (b.length : Int) := by simpa using h
  have hl : a.length = b.length := by omega
  have hlim : a.length ≤ 140737488355328 := ok_a.1
  refine ⟨⟨(0 : Nat), rfl, rfl, ⟨Nat.zero_le _, rfl⟩, trivial⟩, fun (j : Nat) ⟨hj, he⟩ => ?_⟩
  simp only [Tree.holds_loop, Tree.holds_fork, Tree.holds_next, if_true, Tree.holds_cond, Tree.holds_letv, Tree.holds_leaf, Tree.holds_fail]
  refine ⟨fun h => ?_, fun h => ?_⟩
  · have hlt : j < a.length := by simpa using h
    have r1 : inRange (j : Int) a.length = true := inRange_iff.2 ⟨by omega, by omega⟩
    have r2 : inRange (j : Int) b.length = true := inRange_iff.2 ⟨by omega, by omega⟩
    have e2 : IntKind.i64.wrap ((j : Int) + 1) = ((j + 1 : Nat) : Int) := by rw [wrapI64 (by omega) (by omega)]; rfl
    have ga : a.getD j ⟨0, 0, 0⟩ = a[j] := by simp [hlt]
    have gb : b.getD j ⟨0, 0, 0⟩ = b[j]'(by omega) := by simp [show j < b.length by omega]
    simp only [Int.ofNat_eq_natCast, Int.toNat_natCast, r1, r2, ga, gb]
    simp only [true_implies, Bool.true_eq_false, false_implies, and_true]
    have hq : ((a[j].kind == (b[j]'(by omega)).kind && (a[j].at_ == (b[j]'(by omega)).at_ && a[j].time == (b[j]'(by omega)).time)) = true) ↔ a[j] = b[j]'(by omega) := by
      simp only [Bool.and_eq_true, beq_iff_eq]
      constructor
      · rintro ⟨q1, q2, q3⟩
        cases hx : a[j]; cases hy : b[j]'(by omega); simp_all
      · intro h; rw [h]; simp
    refine ⟨fun q => ?_, fun q => ?_⟩
    · have : a ≠ b := fun e => by subst e; simp at q
      simp [decO, decA, decTup, decMach, decCore, decTrap, decInstr, decPart, decGuest, decConf, decEvent, decVcpu, decStep, bytesS, boolS, eventsS, intsS, guestsS, vcpusS, rowS, castL, Option.bind_some, Option.map_some, Option.some.injEq, Nat.beq_refl, beq_self_eq_true, Bool.and_self, cond_true, cond_false, eq_self, this]
    · have q : a[j] = b[j]'(by omega) := hq.1 (by simpa using q)
      refine ⟨j + 1, by rw [e2], rfl, ⟨by omega, ?_⟩, by show a.length - (j + 1) < a.length - j; omega⟩
      rw [List.take_succ_eq_append_getElem hlt, List.take_succ_eq_append_getElem (show j < b.length by omega), he, q]
  · have : j = a.length := by simp at h; omega
    subst this
    have : a = b := by rw [List.take_length] at he; rw [hl, List.take_length] at he; exact he
    simp [decO, decA, decTup, decMach, decCore, decTrap, decInstr, decPart, decGuest, decConf, decEvent, decVcpu, decStep, bytesS, boolS, eventsS, intsS, guestsS, vcpusS, rowS, castL, Option.bind_some, Option.map_some, Option.some.injEq, Nat.beq_refl, beq_self_eq_true, Bool.and_self, cond_true, cond_false, eq_self, this]
  
theorem c_ref16_Events : SpecOk EB 23 S_ref16_Events := spec_sigL ok_ref16_Events (n := 60) (fun (a, b, _) => fun _ => some (L_ref16_Events a b)) fun ⟨a, b, ⟨⟩⟩ h hok => a_ref16_Events a b (ok_events (okSL_head hok)) (ok_events (okSL_head (okSL_tail hok)))
end

/-! ref16_Same -/

def S_ref16_Same : Spec := sig [.vcpu, .vcpu] [.b] (fun (a, b, _) => decide (a = b))
noncomputable def E_ref16_Same : Env := EB.adds [(21, S_ref05_Same), (23, S_ref16_Events)]

theorem ok_ref16_Same : EnvOk E_ref16_Same := okEB.adds (l := _) ⟨c_ref05_Same, c_ref16_Events, trivial⟩

theorem t_ref16_Same (a : PVcpu) (b : PVcpu) : evF E_ref16_Same 60 14 (encArgs [.vcpu, .vcpu] (a, b, ())) = 
 bif (Bool.and (decide (a.core.regs = b.core.regs)) (Bool.and (BEq.beq a.core.pc b.core.pc) (Bool.and (decide (a.core.csr = b.core.csr)) true))) then
 (bif a.halted then
 (bif b.halted then
 (bif (BEq.beq a.done b.done) then
 (Tree.letv (okO [AT.b]) (decide (a.out = b.out)) fun x0 =>
 (bif x0 then
 (Tree.letv (okO [AT.b]) (decide (a.log = b.log)) fun x1 =>
 (bif x1 then
 (Tree.leaf (SV.b true))
 else
 (Tree.leaf (SV.b false))))
 else
 (Tree.leaf (SV.b false))))
 else
 (Tree.leaf (SV.b false)))
 else
 (Tree.leaf (SV.b false)))
 else
 (bif b.halted then
 (Tree.leaf (SV.b false))
 else
 (bif (BEq.beq a.done b.done) then
 (Tree.letv (okO [AT.b]) (decide (a.out = b.out)) fun x0 =>
 (bif x0 then
 (Tree.letv (okO [AT.b]) (decide (a.log = b.log)) fun x1 =>
 (bif x1 then
 (Tree.leaf (SV.b true))
 else
 (Tree.leaf (SV.b false))))
 else
 (Tree.leaf (SV.b false))))
 else
 (Tree.leaf (SV.b false)))))
 else
 (Tree.leaf (SV.b false)) := by kernel_rfl
section
attribute [local irreducible] evF evFL evFLs
theorem a_ref16_Same (a : PVcpu) (b : PVcpu) (ok_a : okVcpu a) (ok_b : okVcpu b) : (evF E_ref16_Same 60 14 (encArgs [.vcpu, .vcpu] (a, b, ()))).ends fun out_ => decO [.b] out_ = some (decide (a = b)) := by
  rw [t_ref16_Same, Tree.ends_holds]
  simp only [Tree.holds_loop, Tree.holds_fork, Tree.holds_next, if_true, Tree.holds_cond, Tree.holds_letv, Tree.holds_leaf, Tree.holds_fail, decO, decA, decTup, decMach, decCore, decTrap, decInstr, decPart, decGuest, decConf, decEvent, decVcpu, decStep, bytesS, boolS, eventsS, intsS, guestsS, vcpusS, rowS, castL, Option.bind_some, Option.map_some, Option.some.injEq, Nat.beq_refl, beq_self_eq_true, Bool.and_self, cond_true, cond_false, eq_self]
  have key : a = b ↔ (a.core.regs = b.core.regs ∧ a.core.pc = b.core.pc ∧ a.core.csr = b.core.csr ∧ a.halted = b.halted ∧ a.done = b.done ∧ a.out = b.out ∧ a.log = b.log) := by
    constructor
    · rintro rfl; simp
    · rintro ⟨h1, h2, h3, h4, h5, h6, h7⟩; exact vcpu_ext (core_ext h1 h2 h3) h6 h4 h5 h7
  simp only [key]
  repeat' (first | refine drop_ok ?_ | intro _ | with_reducible apply And.intro)
  all_goals simp_all
  
theorem c_ref16_Same : SpecOk EB 14 S_ref16_Same := spec_sig ok_ref16_Same (n := 60) fun ⟨a, b, ⟨⟩⟩ h hok => a_ref16_Same a b (ok_vcpu (okSL_head hok)) (ok_vcpu (okSL_head (okSL_tail hok)))
end

/-! law23_awake -/

def S_law23_awake : Spec := sig [] [.b] (fun _ => true)
noncomputable def E_law23_awake : Env := EB_0_1_2.adds [(25, S_ref02_Encode), (11, S_timeslice_Run), (15, S_timeslice_Deadline), (14, S_ref16_Same)]

theorem ok_law23_awake : EnvOk E_law23_awake := okEB_0_1_2.adds (l := _) ⟨(up_to_0_1_2 c_ref02_Encode), c_timeslice_Run, (up_to_0_1_2 c_timeslice_Deadline), (up_to_0_1_2 c_ref16_Same), trivial⟩
theorem t_c_law23_awake : (evF E_law23_awake 60 9 []).inst = .leaf (.b true) := by kernel_rfl
section
attribute [local irreducible] evF
theorem c_law23_awake : SpecOk EB_0_1_2 9 S_law23_awake := spec_sig ok_law23_awake (n := 60) fun _ _ _ => Tree.of_inst (Q := .of _) (by
  show ((evF E_law23_awake 60 9 []).inst).holds _
  rw [t_c_law23_awake]; exact rfl)
end


/-! ref10_Few -/

def S_ref10_Few : Spec := sig [.mach] [.b] (fun (m, _) => K.few m)
noncomputable def E_ref10_Few : Env := EB.adds []

theorem ok_ref10_Few : EnvOk E_ref10_Few := okEB.adds (l := _) trivial

theorem t_ref10_Few (m : PMach) : evF E_ref10_Few 60 27 (encArgs [.mach] (m, ())) = 
 bif (decide ((Int.ofNat (List.length m.mem)) ≤ (600 : Int))) then
 (bif (decide ((Int.ofNat (List.length m.out)) ≤ (600 : Int))) then
 (Tree.leaf (SV.b true))
 else
 (Tree.leaf (SV.b false)))
 else
 (Tree.leaf (SV.b false)) := by kernel_rfl
section
attribute [local irreducible] evF evFL evFLs
theorem a_ref10_Few (m : PMach) (ok_m : okMach m) : (evF E_ref10_Few 60 27 (encArgs [.mach] (m, ()))).ends fun out_ => decO [.b] out_ = some (K.few m) := by
  rw [t_ref10_Few, Tree.ends_holds]
  simp only [Tree.holds_loop, Tree.holds_fork, Tree.holds_next, if_true, Tree.holds_cond, Tree.holds_letv, Tree.holds_leaf, Tree.holds_fail, decO, decA, decTup, decMach, decCore, decTrap, decInstr, decPart, decGuest, decConf, decEvent, decVcpu, decStep, bytesS, boolS, eventsS, intsS, guestsS, vcpusS, rowS, castL, Option.bind_some, Option.map_some, Option.some.injEq, Nat.beq_refl, beq_self_eq_true, Bool.and_self, cond_true, cond_false, eq_self, beq_iff_eq, beq_eq_false_iff_ne, bne_iff_ne, bne_eq_false_iff_eq, ne_eq, decide_eq_true_eq, decide_eq_false_iff_not, ble_true, ble_false, inRange_iff, inRange_false]
  repeat' (first | refine drop_ok ?_ | intro _ | with_reducible apply And.intro)
  all_goals (first | omega | (simp_all [K.few]; done) | (simp_all [K.few] <;> omega) | simp_all [K.few])
  
theorem c_ref10_Few : SpecOk EB 27 S_ref10_Few := spec_sig ok_ref10_Few (n := 60) fun ⟨m, ⟨⟩⟩ h hok => a_ref10_Few m (ok_mach (okSL_head hok))
end

/-! ref16_Few -/

def S_ref16_Few : Spec := sig [.vcpu] [.b] (fun (v, _) => K.vfew v)
noncomputable def E_ref16_Few : Env := EB.adds []

theorem ok_ref16_Few : EnvOk E_ref16_Few := okEB.adds (l := _) trivial

theorem t_ref16_Few (v : PVcpu) : evF E_ref16_Few 60 28 (encArgs [.vcpu] (v, ())) = 
 bif (decide ((Int.ofNat (List.length v.out)) ≤ (600 : Int))) then
 (bif (decide ((Int.ofNat (List.length v.log)) ≤ (600 : Int))) then
 (Tree.leaf (SV.b true))
 else
 (Tree.leaf (SV.b false)))
 else
 (Tree.leaf (SV.b false)) := by kernel_rfl
section
attribute [local irreducible] evF evFL evFLs
theorem a_ref16_Few (v : PVcpu) (ok_v : okVcpu v) : (evF E_ref16_Few 60 28 (encArgs [.vcpu] (v, ()))).ends fun out_ => decO [.b] out_ = some (K.vfew v) := by
  rw [t_ref16_Few, Tree.ends_holds]
  simp only [Tree.holds_loop, Tree.holds_fork, Tree.holds_next, if_true, Tree.holds_cond, Tree.holds_letv, Tree.holds_leaf, Tree.holds_fail, decO, decA, decTup, decMach, decCore, decTrap, decInstr, decPart, decGuest, decConf, decEvent, decVcpu, decStep, bytesS, boolS, eventsS, intsS, guestsS, vcpusS, rowS, castL, Option.bind_some, Option.map_some, Option.some.injEq, Nat.beq_refl, beq_self_eq_true, Bool.and_self, cond_true, cond_false, eq_self, beq_iff_eq, beq_eq_false_iff_ne, bne_iff_ne, bne_eq_false_iff_eq, ne_eq, decide_eq_true_eq, decide_eq_false_iff_not, ble_true, ble_false, inRange_iff, inRange_false]
  repeat' (first | refine drop_ok ?_ | intro _ | with_reducible apply And.intro)
  all_goals (first | omega | (simp_all [K.vfew]; done) | (simp_all [K.vfew] <;> omega) | simp_all [K.vfew])
  
theorem c_ref16_Few : SpecOk EB 28 S_ref16_Few := spec_sig ok_ref16_Few (n := 60) fun ⟨v, ⟨⟩⟩ h hok => a_ref16_Few v (ok_vcpu (okSL_head hok))
end

/-! ref16_Form -/
@[reducible] def L_ref16_Form (v : PVcpu) : LoopSpec where
  σ := Nat
  slots := [1, 2, 3]
  keys := [1]
  vals := fun j => [.loc 0 0 0 1, .b false, .v (.int .i64 (j : Int))]
  blks := fun _ => [.cells (vcpuC v) 33]
  inv := fun j => j ≤ v.log.length ∧ ∀ i, i < j → K.evAt v.log v.done i = true
  mu := fun j => v.log.length - j
def S_ref16_Form : Spec := sig [.vcpu] [.b] (fun (v, _) => K.vform v)
noncomputable def E_ref16_Form : Env := EB.adds []

theorem ok_ref16_Form : EnvOk E_ref16_Form := okEB.adds (l := _) trivial

theorem t_ref16_Form (v : PVcpu) : evFL E_ref16_Form (fun _ => some (L_ref16_Form v)) 60 29 (encArgs [.vcpu] (v, ())) = 
 Tree.loop 0 (L_ref16_Form v) [(SV.loc 0 0 0 1), (SV.b false), (SV.v (Value.int IntKind.i64 (0 : Int)))] [(Blk.cells [(SV.arr IntKind.u32 16 v.core.regs), (SV.v (Value.int IntKind.u32 v.core.pc)), (SV.arr IntKind.u32 12 v.core.csr), (SV.rd ETy.u8 v.out), (SV.v (Value.bool v.halted)), (SV.v (Value.int IntKind.i64 v.done)), (SV.rd ETy.event v.log)] 33)] fun (x0 : Nat) =>
 (bif (decide ((Int.ofNat x0) < (Int.ofNat (List.length v.log)))) then
 (bif (inRange (Int.ofNat x0) (List.length v.log)) then
 (bif (decide ((List.getD v.log (Int.toNat (Int.ofNat x0)) (PEvent.mk (0 : Int) (0 : Int) (0 : Int))).kind < (1 : Int))) then
 (Tree.leaf (SV.b false))
 else
 (bif (decide ((List.getD v.log (Int.toNat (Int.ofNat x0)) (PEvent.mk (0 : Int) (0 : Int) (0 : Int))).kind > (3 : Int))) then
 (Tree.leaf (SV.b false))
 else
 (bif (decide ((List.getD v.log (Int.toNat (Int.ofNat x0)) (PEvent.mk (0 : Int) (0 : Int) (0 : Int))).at_ < (0 : Int))) then
 (Tree.leaf (SV.b false))
 else
 (bif (decide ((List.getD v.log (Int.toNat (Int.ofNat x0)) (PEvent.mk (0 : Int) (0 : Int) (0 : Int))).at_ ≥ v.done)) then
 (Tree.leaf (SV.b false))
 else
 (bif (decide ((Int.ofNat x0) > (0 : Int))) then
 (bif (inRange (IntKind.wrap IntKind.i64 ((Int.ofNat x0) - (1 : Int))) (List.length v.log)) then
 (bif (decide ((List.getD v.log (Int.toNat (Int.ofNat x0)) (PEvent.mk (0 : Int) (0 : Int) (0 : Int))).at_ ≤ (List.getD v.log (Int.toNat (IntKind.wrap IntKind.i64 ((Int.ofNat x0) - (1 : Int)))) (PEvent.mk (0 : Int) (0 : Int) (0 : Int))).at_)) then
 (Tree.leaf (SV.b false))
 else
 ((Tree.next 0 [(SV.loc 0 0 0 1), (SV.b false), (SV.v (Value.int IntKind.i64 (IntKind.wrap IntKind.i64 ((Int.ofNat x0) + (1 : Int)))))] [(Blk.cells [(SV.arr IntKind.u32 16 v.core.regs), (SV.v (Value.int IntKind.u32 v.core.pc)), (SV.arr IntKind.u32 12 v.core.csr), (SV.rd ETy.u8 v.out), (SV.v (Value.bool v.halted)), (SV.v (Value.int IntKind.i64 v.done)), (SV.rd ETy.event v.log)] 33)])))
 else
 (Tree.fail))
 else
 ((Tree.next 0 [(SV.loc 0 0 0 1), (SV.b false), (SV.v (Value.int IntKind.i64 (IntKind.wrap IntKind.i64 ((Int.ofNat x0) + (1 : Int)))))] [(Blk.cells [(SV.arr IntKind.u32 16 v.core.regs), (SV.v (Value.int IntKind.u32 v.core.pc)), (SV.arr IntKind.u32 12 v.core.csr), (SV.rd ETy.u8 v.out), (SV.v (Value.bool v.halted)), (SV.v (Value.int IntKind.i64 v.done)), (SV.rd ETy.event v.log)] 33)])))))))
 else
 (Tree.fail))
 else
 (bif (BEq.beq (List.getD v.core.regs 0 (0 : Int)) (0 : Int)) then
 (bif (BEq.beq (List.getD v.core.csr 7 (0 : Int)) (0 : Int)) then
 (bif (BEq.beq (List.getD v.core.csr 8 (0 : Int)) (0 : Int)) then
 (bif (decide (v.done ≥ (0 : Int))) then
 (Tree.leaf (SV.b true))
 else
 (Tree.leaf (SV.b false)))
 else
 (Tree.leaf (SV.b false)))
 else
 (Tree.leaf (SV.b false)))
 else
 (Tree.leaf (SV.b false)))) := by kernel_rfl
section
attribute [local irreducible] evF evFL evFLs
theorem a_ref16_Form (v : PVcpu) (ok_v : okVcpu v) : (evFL E_ref16_Form (fun _ => some (L_ref16_Form v)) 60 29 (encArgs [.vcpu] (v, ()))).ends fun out_ => decO [.b] out_ = some (K.vform v) := by
  rw [t_ref16_Form, Tree.ends_holds]
  have hlim : v.log.length ≤ 140737488355328 := ok_v.log.1
  simp only [Tree.holds_loop]
  refine ⟨⟨(0 : Nat), rfl, rfl, ⟨Nat.zero_le _, fun i h => absurd h (Nat.not_lt_zero _)⟩, trivial⟩, fun (j : Nat) ⟨hj, hinv⟩ => ?_⟩
  have hno : j < v.log.length → K.evAt v.log v.done j = false → K.vform v = false := fun h1 h2 => by
    have : K.logOk v.log v.done = false := by
      cases hq : K.logOk v.log v.done with
      | false => rfl
      | true => rw [logOk_iff.1 hq j h1] at h2; cases h2
    unfold K.vform; rw [this]; rfl
  have hyes : ¬ j < v.log.length → K.logOk v.log v.done = true := fun h => logOk_iff.2 fun i hi => hinv i (by omega)
  have e2 : j < v.log.length → IntKind.i64.wrap ((j : Int) + 1) = ((j + 1 : Nat) : Int) := fun h => by rw [wrapI64 (by omega) (by omega)]; rfl
  have e3 : 0 < j → IntKind.i64.wrap ((j : Int) - 1) = ((j - 1 : Nat) : Int) := fun h => by rw [wrapI64 (by omega) (by omega)]; omega
  have nx : j < v.log.length → K.evAt v.log v.done j = true → (L_ref16_Form v).at (fun y => v.log.length - y < v.log.length - j) [SV.loc 0 0 0 1, SV.b false, SV.v (.int .i64 (IntKind.i64.wrap ((j : Int) + 1)))] [Blk.cells (vcpuC v) 33] := fun h1 h2 => by
    rw [e2 h1]
    refine ⟨j + 1, rfl, rfl, ⟨h1, fun i hi => ?_⟩, by show v.log.length - (j + 1) < v.log.length - j; omega⟩
    by_cases hij : i = j
    · subst hij; exact h2
    · exact hinv i (by omega)
  have at_ : K.evAt v.log v.done j = (decide (1 ≤ (v.log.getD j ⟨0, 0, 0⟩).kind) && decide ((v.log.getD j ⟨0, 0, 0⟩).kind ≤ 3) && decide (0 ≤ (v.log.getD j ⟨0, 0, 0⟩).at_) && decide ((v.log.getD j ⟨0, 0, 0⟩).at_ < v.done) && (j == 0 || decide ((v.log.getD (j - 1) ⟨0, 0, 0⟩).at_ < (v.log.getD j ⟨0, 0, 0⟩).at_))) := rfl
  have hat : K.evAt v.log v.done j = true ↔ (1 ≤ (v.log.getD j ⟨0, 0, 0⟩).kind ∧ (v.log.getD j ⟨0, 0, 0⟩).kind ≤ 3 ∧ 0 ≤ (v.log.getD j ⟨0, 0, 0⟩).at_ ∧ (v.log.getD j ⟨0, 0, 0⟩).at_ < v.done ∧ (j = 0 ∨ (v.log.getD (j - 1) ⟨0, 0, 0⟩).at_ < (v.log.getD j ⟨0, 0, 0⟩).at_)) := by
    rw [at_]; simp only [Bool.and_eq_true, Bool.or_eq_true, beq_iff_eq, decide_eq_true_eq, and_assoc]
  have hno2 : j < v.log.length → ¬ (1 ≤ (v.log.getD j ⟨0, 0, 0⟩).kind ∧ (v.log.getD j ⟨0, 0, 0⟩).kind ≤ 3 ∧ 0 ≤ (v.log.getD j ⟨0, 0, 0⟩).at_ ∧ (v.log.getD j ⟨0, 0, 0⟩).at_ < v.done ∧ (j = 0 ∨ (v.log.getD (j - 1) ⟨0, 0, 0⟩).at_ < (v.log.getD j ⟨0, 0, 0⟩).at_)) → K.vform v = false := fun h1 h2 => hno h1 (by
    cases hq : K.evAt v.log v.done j with
    | false => rfl
    | true => exact absurd (hat.1 hq) h2)
  clear hno at_
  simp only [Tree.holds_loop, Tree.holds_fork, Tree.holds_next, if_true, Tree.holds_cond, Tree.holds_letv, Tree.holds_leaf, Tree.holds_fail, decO, decA, decTup, decMach, decCore, decTrap, decInstr, decPart, decGuest, decConf, decEvent, decVcpu, decStep, bytesS, boolS, eventsS, intsS, guestsS, vcpusS, rowS, castL, Option.bind_some, Option.map_some, Option.some.injEq, Nat.beq_refl, beq_self_eq_true, Bool.and_self, cond_true, cond_false, eq_self, beq_iff_eq, beq_eq_false_iff_ne, bne_iff_ne, bne_eq_false_iff_eq, ne_eq, decide_eq_true_eq, decide_eq_false_iff_not, ble_true, ble_false, inRange_iff, inRange_false, Int.ofNat_eq_natCast, Int.toNat_natCast]
  by_cases h0 : 0 < j
  · simp only [e3 h0, Int.toNat_natCast]
    clear e3
    repeat' (first | refine drop_ok ?_ | intro _ | with_reducible apply And.intro)
    all_goals first | omega | (refine nx (by omega) (hat.2 ?_); omega) | (rw [hno2 (by omega) (by omega)]; done) | (have := hyes (by omega); clear nx hno2 hat hyes hinv e2; simp_all [K.vform]; done)
  · have : j = 0 := by omega
    subst this
    repeat' (first | refine drop_ok ?_ | intro _ | with_reducible apply And.intro)
    all_goals first | omega | (refine nx (by omega) (hat.2 ?_); omega) | (rw [hno2 (by omega) (by omega)]; done) | (have := hyes (by omega); clear nx hno2 hat hyes hinv e2 e3; simp_all [K.vform]; done)
  
theorem c_ref16_Form : SpecOk EB 29 S_ref16_Form := spec_sigL ok_ref16_Form (n := 60) (fun (v, _) => fun _ => some (L_ref16_Form v)) fun ⟨v, ⟨⟩⟩ h hok => a_ref16_Form v (ok_vcpu (okSL_head hok))
end

/-! ref23_Fits -/
def K.fits23 (host : PMach) (v : PVcpu) (p : PPart) (q : Int) : Bool := K.few host && (K.vfew v && (K.vform v && (!host.halted && (decide (host.time ≤ 4611686018427387904) && (decide (q ≤ 60) && (decide (v.done ≤ 1099511627776) && (decide (p.base % 4 = 0) && (decide (p.size % 4 = 0) && decide (p.base + p.size ≤ host.mem.length)))))))))
theorem fits23_at {host : PMach} {v : PVcpu} {p : PPart} {q : Int} (h : K.fits23 host v p q = true) : host.halted = false ∧ host.mem.length ≤ 600 ∧ host.out.length ≤ 600 ∧ v.out.length ≤ 600 ∧ v.log.length ≤ 600 ∧ host.time ≤ 4611686018427387904 ∧ q ≤ 60 ∧ p.base + p.size ≤ host.mem.length ∧ K.vform v = true ∧ v.done ≤ 1099511627776 := by
  simp only [K.fits23, K.few, K.vfew, Bool.and_eq_true, decide_eq_true_eq, Bool.not_eq_true'] at h
  obtain ⟨⟨a1, a2⟩, ⟨a3, a4⟩, a5, a6, a7, a8, a9, _, _, a10⟩ := h
  exact ⟨a6, a1, a2, a3, a4, a7, a8, a10, a5, a9⟩
def S_ref23_Fits : Spec := sig [.mach, .vcpu, .part, .i .i64] [.b] (fun (host, v, p, q, _) => K.fits23 host v p q)
noncomputable def E_ref23_Fits : Env := EB.adds [(27, S_ref10_Few), (28, S_ref16_Few), (29, S_ref16_Form)]

theorem ok_ref23_Fits : EnvOk E_ref23_Fits := okEB.adds (l := _) ⟨c_ref10_Few, c_ref16_Few, c_ref16_Form, trivial⟩

theorem t_ref23_Fits (host : PMach) (v : PVcpu) (p : PPart) (q : Int) : evF E_ref23_Fits 60 10 (encArgs [.mach, .vcpu, .part, .i .i64] (host, v, p, q, ())) = 
 Tree.letv (okO [AT.b]) (K.few host) fun x0 =>
 (bif x0 then
 (Tree.letv (okO [AT.b]) (K.vfew v) fun x1 =>
 (bif x1 then
 (Tree.letv (okO [AT.b]) (K.vform v) fun x2 =>
 (bif x2 then
 (bif host.halted then
 (Tree.leaf (SV.b false))
 else
 (bif (decide (host.time ≤ (4611686018427387904 : Int))) then
 (bif (decide (q ≤ (60 : Int))) then
 (bif (decide (v.done ≤ (1099511627776 : Int))) then
 (bif (BEq.beq (Int.tmod p.base (4 : Int)) (0 : Int)) then
 (bif (BEq.beq (Int.tmod p.size (4 : Int)) (0 : Int)) then
 (bif (decide ((IntKind.wrap IntKind.i64 ((IntKind.wrap IntKind.i64 p.base) + (IntKind.wrap IntKind.i64 p.size))) ≤ (Int.ofNat (List.length host.mem)))) then
 (Tree.leaf (SV.b true))
 else
 (Tree.leaf (SV.b false)))
 else
 (Tree.leaf (SV.b false)))
 else
 (Tree.leaf (SV.b false)))
 else
 (Tree.leaf (SV.b false)))
 else
 (Tree.leaf (SV.b false)))
 else
 (Tree.leaf (SV.b false))))
 else
 (Tree.leaf (SV.b false))))
 else
 (Tree.leaf (SV.b false))))
 else
 (Tree.leaf (SV.b false))) := by kernel_rfl
section
attribute [local irreducible] evF evFL evFLs
theorem a_ref23_Fits (host : PMach) (v : PVcpu) (p : PPart) (q : Int) (ok_host : okMach host) (ok_v : okVcpu v) (ok_p : okPart p) (ok_q : okI .i64 q) : (evF E_ref23_Fits 60 10 (encArgs [.mach, .vcpu, .part, .i .i64] (host, v, p, q, ()))).ends fun out_ => decO [.b] out_ = some (K.fits23 host v p q) := by
  rw [t_ref23_Fits, Tree.ends_holds]
  obtain ⟨p0, p1⟩ := okI_u32 ok_p.base
  obtain ⟨q0, q1⟩ := okI_u32 ok_p.size
  have w1 : IntKind.i64.wrap p.base = p.base := wrapI64 (by omega) (by omega)
  have w2 : IntKind.i64.wrap p.size = p.size := wrapI64 (by omega) (by omega)
  have w3 : IntKind.i64.wrap (p.base + p.size) = p.base + p.size := wrapI64 (by omega) (by omega)
  have w4 : p.base.tmod 4 = p.base % 4 := by rw [Int.tmod_eq_emod_of_nonneg p0]
  have w5 : p.size.tmod 4 = p.size % 4 := by rw [Int.tmod_eq_emod_of_nonneg q0]
  simp only [Tree.holds_loop, Tree.holds_fork, Tree.holds_next, if_true, Tree.holds_cond, Tree.holds_letv, Tree.holds_leaf, Tree.holds_fail, decO, decA, decTup, decMach, decCore, decTrap, decInstr, decPart, decGuest, decConf, decEvent, decVcpu, decStep, bytesS, boolS, eventsS, intsS, guestsS, vcpusS, rowS, castL, Option.bind_some, Option.map_some, Option.some.injEq, Nat.beq_refl, beq_self_eq_true, Bool.and_self, cond_true, cond_false, eq_self, beq_iff_eq, beq_eq_false_iff_ne, bne_iff_ne, bne_eq_false_iff_eq, ne_eq, decide_eq_true_eq, decide_eq_false_iff_not, ble_true, ble_false, inRange_iff, inRange_false, Int.ofNat_eq_natCast, w1, w2, w3, w4, w5]
  repeat' (first | refine drop_ok ?_ | intro _ | with_reducible apply And.intro)
  all_goals first | (simp only [K.fits23]; simp_all; done) | (symm; rw [Bool.eq_false_iff]; intro hq; have := hq; simp only [K.fits23, Bool.and_eq_true, decide_eq_true_eq] at this; omega) | trace_state
  
theorem c_ref23_Fits : SpecOk EB 10 S_ref23_Fits := spec_sig ok_ref23_Fits (n := 60) fun ⟨host, v, p, q, ⟨⟩⟩ h hok => a_ref23_Fits host v p q (ok_mach (okSL_head hok)) (ok_vcpu (okSL_head (okSL_tail hok))) (ok_part (okSL_head (okSL_tail (okSL_tail hok)))) (ok_int (okSL_head (okSL_tail (okSL_tail (okSL_tail hok)))))
end

/-! ref05_Cut -/
@[reducible] def L_ref05_Cut (m : List Int) (a size : Int) : LoopSpec where
  σ := Nat
  slots := [0, 1, 2, 8, 9]
  keys := [8]
  vals := fun j => [.rd .u8 m, .v (.int .u32 a), .v (.int .u32 size), .own 0, .v (.int .i64 (j : Int))]
  blks := fun j => [.row .u8 ((m.drop a.toNat).take j) 5]
  inv := fun j => (j : Int) ≤ size ∧ a + size ≤ m.length
  mu := fun j => size.toNat - j
  nils := [(8, .u8, 5)]
def S_ref05_Cut : Spec := sig [.rd .u8, .i .u32, .i .u32] [.rd .u8, .b] (fun (m, a, size, _) => if a + size ≤ m.length then ((m.drop a.toNat).take size.toNat, true) else ([], false)) (pre := fun (m, a, size, _) => decide (m.length ≤ 1099511627776))
noncomputable def E_ref05_Cut : Env := EB.adds []

theorem ok_ref05_Cut : EnvOk E_ref05_Cut := okEB.adds (l := _) trivial

theorem t_ref05_Cut (m : List Int) (a : Int) (size : Int) : evFL E_ref05_Cut (fun _ => some (L_ref05_Cut m a size)) 60 17 (encArgs [.rd .u8, .i .u32, .i .u32] (m, a, size, ())) = 
 bif (decide ((IntKind.wrap IntKind.i64 ((IntKind.wrap IntKind.i64 a) + (IntKind.wrap IntKind.i64 size))) > (Int.ofNat (List.length m)))) then
 (Tree.leaf (SV.tup [(SV.v (Value.slice Option.none 0 0)), (SV.b false)]))
 else
 (Tree.loop 0 (L_ref05_Cut m a size) [(SV.rd ETy.u8 m), (SV.v (Value.int IntKind.u32 a)), (SV.v (Value.int IntKind.u32 size)), (SV.own 0), (SV.v (Value.int IntKind.i64 (0 : Int)))] [(Blk.row ETy.u8 [] 5)] fun (x0 : Nat) =>
 (bif (decide ((Int.ofNat x0) < (IntKind.wrap IntKind.i64 size))) then
 (bif (inRange (IntKind.wrap IntKind.i64 ((IntKind.wrap IntKind.i64 a) + (Int.ofNat x0))) (List.length m)) then
 (bif (Nat.ble (((List.length (List.take x0 (List.drop (Int.toNat a) m))) + 1) * 1) 140737488355328) then
 ((Tree.next 0 [(SV.rd ETy.u8 m), (SV.v (Value.int IntKind.u32 a)), (SV.v (Value.int IntKind.u32 size)), (SV.own 0), (SV.v (Value.int IntKind.i64 (IntKind.wrap IntKind.i64 ((Int.ofNat x0) + (1 : Int)))))] [(Blk.row ETy.u8 (List.append (List.take x0 (List.drop (Int.toNat a) m)) [(List.getD m (Int.toNat (IntKind.wrap IntKind.i64 ((IntKind.wrap IntKind.i64 a) + (Int.ofNat x0)))) (0 : Int))]) 5)]))
 else
 (Tree.fail))
 else
 (Tree.fail))
 else
 (Tree.leaf (SV.tup [(SV.rd ETy.u8 (List.take x0 (List.drop (Int.toNat a) m))), (SV.b true)])))) := by kernel_rfl
section
attribute [local irreducible] evF evFL evFLs
theorem a_ref05_Cut (m : List Int) (a : Int) (size : Int) (hpre : m.length ≤ 1099511627776) (ok_m : okBytes m) (ok_a : okI .u32 a) (ok_size : okI .u32 size) : (evFL E_ref05_Cut (fun _ => some (L_ref05_Cut m a size)) 60 17 (encArgs [.rd .u8, .i .u32, .i .u32] (m, a, size, ()))).ends fun out_ => decO [.rd .u8, .b] out_ = some (if a + size ≤ m.length then ((m.drop a.toNat).take size.toNat, true) else ([], false)) := by
  rw [t_ref05_Cut, Tree.ends_holds]
  obtain ⟨a0, a1⟩ := okI_u32 ok_a
  obtain ⟨s0, s1⟩ := okI_u32 ok_size
  have w1 : IntKind.i64.wrap a = a := wrapI64 (by omega) (by omega)
  have w2 : IntKind.i64.wrap size = size := wrapI64 (by omega) (by omega)
  have w3 : IntKind.i64.wrap (a + size) = a + size := wrapI64 (by omega) (by omega)
  have w4 : ∀ j : Nat, (j : Int) < size → IntKind.i64.wrap (a + (j : Int)) = a + j := fun j h => wrapI64 (by omega) (by omega)
  have w5 : ∀ j : Nat, (j : Int) < size → IntKind.i64.wrap ((j : Int) + 1) = ((j + 1 : Nat) : Int) := fun j h => by rw [wrapI64 (by omega) (by omega)]; rfl
  simp only [Tree.holds_loop, Tree.holds_fork, Tree.holds_next, if_true, Tree.holds_cond, Tree.holds_letv, Tree.holds_leaf, Tree.holds_fail, decO, decA, decTup, decMach, decCore, decTrap, decInstr, decPart, decGuest, decConf, decEvent, decVcpu, decStep, bytesS, boolS, eventsS, intsS, guestsS, vcpusS, rowS, castL, Option.bind_some, Option.map_some, Option.some.injEq, Nat.beq_refl, beq_self_eq_true, Bool.and_self, cond_true, cond_false, eq_self, beq_iff_eq, beq_eq_false_iff_ne, bne_iff_ne, bne_eq_false_iff_eq, ne_eq, decide_eq_true_eq, decide_eq_false_iff_not, ble_true, ble_false, inRange_iff, inRange_false, Int.ofNat_eq_natCast, Int.toNat_natCast, w1, w2, w3]
  by_cases hf : a + size ≤ m.length
  · rw [if_pos hf]
    refine ⟨fun h => by omega, fun _ => ⟨⟨(0 : Nat), rfl, rfl, ⟨s0, hf⟩, trivial⟩, fun (x : Nat) hx => ⟨fun h => ?_, fun h => ?_⟩⟩⟩
    · rw [w4 x h, w5 x h]
      refine ⟨fun _ => ⟨fun _ => ⟨x + 1, rfl, ?_, ⟨by show ((x + 1 : Nat) : Int) ≤ size; omega, hf⟩, by show size.toNat - (x + 1) < size.toNat - x; omega⟩, fun q => ?_⟩, fun q => by omega⟩
      · show [Blk.row ETy.u8 (List.append (List.take x (List.drop a.toNat m)) [m.getD (a + (x : Int)).toNat 0]) 5] = [Blk.row ETy.u8 (List.take (x + 1) (List.drop a.toNat m)) 5]
        congr 2
        have hlt : x < (List.drop a.toNat m).length := by rw [List.length_drop]; omega
        rw [List.take_succ_eq_append_getElem hlt, List.append_eq, List.getElem_drop, List.getD_eq_getElem?_getD, List.getElem?_eq_getElem (by omega)]
        congr 2
        simp only [Option.getD_some]
        congr 1; omega
      · rw [List.length_take, List.length_drop] at q; omega
    · have : x = size.toNat := by omega
      rw [this]
  · rw [if_neg hf]
    exact ⟨fun _ => rfl, fun h => absurd (by omega) hf⟩
  
theorem c_ref05_Cut : SpecOk EB 17 S_ref05_Cut := spec_sigL ok_ref05_Cut (n := 60) (fun (m, a, size, _) => fun _ => some (L_ref05_Cut m a size)) fun ⟨m, a, size, ⟨⟩⟩ h hok => a_ref05_Cut m a size (of_decide_eq_true h) (ok_bytes (okSL_head hok)) (ok_int (okSL_head (okSL_tail hok))) (ok_int (okSL_head (okSL_tail (okSL_tail hok))))
end

/-! ref06_By -/

def S_ref06_By : Spec := sig [.i .u32, .i .u32, .i .u32, .i .u32, .i .i64] [.i .u32, .b] (fun (base, bound, size, a, n, _) => K.reloc base bound size a n) (pre := fun (base, bound, size, a, n, _) => decide (0 ≤ n ∧ n ≤ 1099511627776))
noncomputable def E_ref06_By : Env := EB.adds []

theorem ok_ref06_By : EnvOk E_ref06_By := okEB.adds (l := _) trivial

theorem t_ref06_By (base : Int) (bound : Int) (size : Int) (a : Int) (n : Int) : evF E_ref06_By 60 151 (encArgs [.i .u32, .i .u32, .i .u32, .i .u32, .i .i64] (base, bound, size, a, n, ())) = 
 bif (decide ((IntKind.wrap IntKind.i64 ((IntKind.wrap IntKind.i64 a) + n)) > (IntKind.wrap IntKind.i64 bound))) then
 (Tree.leaf (SV.tup [(SV.v (Value.int IntKind.u32 (0 : Int))), (SV.b false)]))
 else
 (bif (decide ((IntKind.wrap IntKind.i64 ((IntKind.wrap IntKind.i64 base) + (IntKind.wrap IntKind.i64 ((IntKind.wrap IntKind.i64 a) + n)))) > (IntKind.wrap IntKind.i64 size))) then
 (Tree.leaf (SV.tup [(SV.v (Value.int IntKind.u32 (0 : Int))), (SV.b false)]))
 else
 (Tree.leaf (SV.tup [(SV.v (Value.int IntKind.u32 (IntKind.wrap IntKind.u32 (IntKind.wrap IntKind.i64 ((IntKind.wrap IntKind.i64 base) + (IntKind.wrap IntKind.i64 a)))))), (SV.b true)]))) := by kernel_rfl
section
attribute [local irreducible] evF evFL evFLs
theorem a_ref06_By (base : Int) (bound : Int) (size : Int) (a : Int) (n : Int) (hpre : 0 ≤ n ∧ n ≤ 1099511627776) (ok_base : okI .u32 base) (ok_bound : okI .u32 bound) (ok_size : okI .u32 size) (ok_a : okI .u32 a) (ok_n : okI .i64 n) : (evF E_ref06_By 60 151 (encArgs [.i .u32, .i .u32, .i .u32, .i .u32, .i .i64] (base, bound, size, a, n, ()))).ends fun out_ => decO [.i .u32, .b] out_ = some (K.reloc base bound size a n) := by
  rw [t_ref06_By, Tree.ends_holds]
  obtain ⟨a0, a1⟩ := okI_u32 ok_a
  obtain ⟨b0, b1⟩ := okI_u32 ok_base
  obtain ⟨c0, c1⟩ := okI_u32 ok_bound
  obtain ⟨d0, d1⟩ := okI_u32 ok_size
  have e1 : IntKind.i64.wrap a = a := wrapI64 (by omega) (by omega)
  have e3 : IntKind.i64.wrap size = size := wrapI64 (by omega) (by omega)
  have e4 : IntKind.i64.wrap (a + n) = a + n := wrapI64 (by omega) (by omega)
  have e5 : IntKind.i64.wrap base = base := wrapI64 (by omega) (by omega)
  have e6 : IntKind.i64.wrap bound = bound := wrapI64 (by omega) (by omega)
  have e7 : IntKind.i64.wrap (base + (a + n)) = base + (a + n) := wrapI64 (by omega) (by omega)
  have e8 : IntKind.i64.wrap (base + a) = base + a := wrapI64 (by omega) (by omega)
  simp only [Tree.holds_loop, Tree.holds_fork, Tree.holds_next, if_true, Tree.holds_cond, Tree.holds_letv, Tree.holds_leaf, Tree.holds_fail, decO, decA, decTup, decMach, decCore, decTrap, decInstr, decPart, decGuest, decConf, decEvent, decVcpu, decStep, bytesS, boolS, eventsS, intsS, guestsS, vcpusS, rowS, castL, Option.bind_some, Option.map_some, Option.some.injEq, Nat.beq_refl, beq_self_eq_true, Bool.and_self, cond_true, cond_false, eq_self, beq_iff_eq, beq_eq_false_iff_ne, bne_iff_ne, bne_eq_false_iff_eq, ne_eq, decide_eq_true_eq, decide_eq_false_iff_not, ble_true, ble_false, inRange_iff, inRange_false, K.reloc, e1, e3, e4, e5, e6, e7, e8]
  repeat' (first | refine drop_ok ?_ | intro _ | with_reducible apply And.intro)
  all_goals first | (rw [if_neg (by omega)]; done) | (rw [if_pos (by omega), show IntKind.u32.wrap (base + a) = base + a by rw [wrap32]; omega])
  
theorem c_ref06_By : SpecOk EB 151 S_ref06_By := spec_sig ok_ref06_By (n := 60) fun ⟨base, bound, size, a, n, ⟨⟩⟩ h hok => a_ref06_By base bound size a n (of_decide_eq_true h) (ok_int (okSL_head hok)) (ok_int (okSL_head (okSL_tail hok))) (ok_int (okSL_head (okSL_tail (okSL_tail hok)))) (ok_int (okSL_head (okSL_tail (okSL_tail (okSL_tail hok))))) (ok_int (okSL_head (okSL_tail (okSL_tail (okSL_tail (okSL_tail hok))))))
end

/-! ref06_Super -/

def S_ref06_Super : Spec := sig [.core] [.b] (fun (c, _) => K.super c)
noncomputable def E_ref06_Super : Env := EB.adds []

theorem ok_ref06_Super : EnvOk E_ref06_Super := okEB.adds (l := _) trivial

theorem t_ref06_Super (c : PCore) : evF E_ref06_Super 60 24 (encArgs [.core] (c, ())) = 
 bif (BEq.beq (Int.tmod (List.getD c.csr 0 (0 : Int)) (2 : Int)) (1 : Int)) then
 (Tree.leaf (SV.b true))
 else
 (Tree.leaf (SV.b false)) := by kernel_rfl
section
attribute [local irreducible] evF evFL evFLs
theorem a_ref06_Super (c : PCore) (ok_c : okCore c) : (evF E_ref06_Super 60 24 (encArgs [.core] (c, ()))).ends fun out_ => decO [.b] out_ = some (K.super c) := by
  rw [t_ref06_Super, Tree.ends_holds]
  obtain ⟨s0, s1⟩ := ok_c.csr.u32 (i := 0) (by omega)
  simp only [Tree.holds_loop, Tree.holds_fork, Tree.holds_next, if_true, Tree.holds_cond, Tree.holds_letv, Tree.holds_leaf, Tree.holds_fail, decO, decA, decTup, decMach, decCore, decTrap, decInstr, decPart, decGuest, decConf, decEvent, decVcpu, decStep, bytesS, boolS, eventsS, intsS, guestsS, vcpusS, rowS, castL, Option.bind_some, Option.map_some, Option.some.injEq, Nat.beq_refl, beq_self_eq_true, Bool.and_self, cond_true, cond_false, eq_self, beq_iff_eq, beq_eq_false_iff_ne, bne_iff_ne, bne_eq_false_iff_eq, ne_eq, decide_eq_true_eq, decide_eq_false_iff_not, ble_true, ble_false, inRange_iff, inRange_false, K.super, Int.tmod_eq_emod_of_nonneg s0]
  repeat' (first | refine drop_ok ?_ | intro _ | with_reducible apply And.intro)
  all_goals simp_all
  
theorem c_ref06_Super : SpecOk EB 24 S_ref06_Super := spec_sig ok_ref06_Super (n := 60) fun ⟨c, ⟨⟩⟩ h hok => a_ref06_Super c (ok_core (okSL_head hok))
end

/-! ref06_At -/

def S_ref06_At : Spec := sig [.core, .i .u32, .i .u32, .i .i64] [.i .u32, .b] (fun (c, size, a, n, _) => K.trans c size a n) (pre := fun (c, size, a, n, _) => decide (0 ≤ n ∧ n ≤ 1099511627776))
noncomputable def E_ref06_At : Env := EB.adds [(151, S_ref06_By), (24, S_ref06_Super)]

theorem ok_ref06_At : EnvOk E_ref06_At := okEB.adds (l := _) ⟨c_ref06_By, c_ref06_Super, trivial⟩

theorem t_ref06_At (c : PCore) (size : Int) (a : Int) (n : Int) : evF E_ref06_At 60 128 (encArgs [.core, .i .u32, .i .u32, .i .i64] (c, size, a, n, ())) = 
 Tree.letv (okO [AT.b]) (K.super c) fun x0 =>
 (bif x0 then
 (bif (decide (And ((0 : Int) ≤ n) (n ≤ (1099511627776 : Int)))) then
 (Tree.letv (okO [(AT.i IntKind.u32), AT.b]) (K.reloc (0 : Int) size size a n) fun x1 =>
 (bif x1.snd then
 (Tree.leaf (SV.tup [(SV.v (Value.int IntKind.u32 x1.fst)), (SV.b true)]))
 else
 (Tree.leaf (SV.tup [(SV.v (Value.int IntKind.u32 x1.fst)), (SV.b false)]))))
 else
 (Tree.fail))
 else
 (bif (decide (And ((0 : Int) ≤ n) (n ≤ (1099511627776 : Int)))) then
 (Tree.letv (okO [(AT.i IntKind.u32), AT.b]) (K.reloc (List.getD c.csr 5 (0 : Int)) (List.getD c.csr 6 (0 : Int)) size a n) fun x1 =>
 (bif x1.snd then
 (Tree.leaf (SV.tup [(SV.v (Value.int IntKind.u32 x1.fst)), (SV.b true)]))
 else
 (Tree.leaf (SV.tup [(SV.v (Value.int IntKind.u32 x1.fst)), (SV.b false)]))))
 else
 (Tree.fail))) := by kernel_rfl
section
attribute [local irreducible] evF evFL evFLs
theorem a_ref06_At (c : PCore) (size : Int) (a : Int) (n : Int) (hpre : 0 ≤ n ∧ n ≤ 1099511627776) (ok_c : okCore c) (ok_size : okI .u32 size) (ok_a : okI .u32 a) (ok_n : okI .i64 n) : (evF E_ref06_At 60 128 (encArgs [.core, .i .u32, .i .u32, .i .i64] (c, size, a, n, ()))).ends fun out_ => decO [.i .u32, .b] out_ = some (K.trans c size a n) := by
  rw [t_ref06_At, Tree.ends_holds]
  simp only [Tree.holds_loop, Tree.holds_fork, Tree.holds_next, if_true, Tree.holds_cond, Tree.holds_letv, Tree.holds_leaf, Tree.holds_fail, decO, decA, decTup, decMach, decCore, decTrap, decInstr, decPart, decGuest, decConf, decEvent, decVcpu, decStep, bytesS, boolS, eventsS, intsS, guestsS, vcpusS, rowS, castL, Option.bind_some, Option.map_some, Option.some.injEq, Nat.beq_refl, beq_self_eq_true, Bool.and_self, cond_true, cond_false, eq_self, beq_iff_eq, beq_eq_false_iff_ne, bne_iff_ne, bne_eq_false_iff_eq, ne_eq, decide_eq_true_eq, decide_eq_false_iff_not, ble_true, ble_false, inRange_iff, inRange_false, K.trans]
  repeat' (first | refine drop_ok ?_ | intro _ | with_reducible apply And.intro)
  all_goals first | omega | (simp_all; done) | (simp_all; apply Prod.ext <;> simp_all; done)
  
theorem c_ref06_At : SpecOk EB 128 S_ref06_At := spec_sig ok_ref06_At (n := 60) fun ⟨c, size, a, n, ⟨⟩⟩ h hok => a_ref06_At c size a n (of_decide_eq_true h) (ok_core (okSL_head hok)) (ok_int (okSL_head (okSL_tail hok))) (ok_int (okSL_head (okSL_tail (okSL_tail hok)))) (ok_int (okSL_head (okSL_tail (okSL_tail (okSL_tail hok)))))
end

/-! ref10_Cell -/

def S_ref10_Cell : Spec := sig [.mach, .i .u32, .i .i64] [.i .u32, .trap] (fun (m, a, n, _) => K.cell m a n) (pre := fun (m, a, n, _) => decide (n = 1 ∨ n = 4))
noncomputable def E_ref10_Cell : Env := EB.adds [(128, S_ref06_At)]

theorem ok_ref10_Cell : EnvOk E_ref10_Cell := okEB.adds (l := _) ⟨c_ref06_At, trivial⟩

theorem t_ref10_Cell (m : PMach) (a : Int) (n : Int) : evF E_ref10_Cell 60 111 (encArgs [.mach, .i .u32, .i .i64] (m, a, n, ())) = 
 bif (BEq.beq n (4 : Int)) then
 (bif (bne (Int.tmod a (4 : Int)) (0 : Int)) then
 (Tree.leaf (SV.tup [(SV.v (Value.int IntKind.u32 (0 : Int))), (SV.agg [(SV.v (Value.int IntKind.i64 (4 : Int))), (SV.v (Value.int IntKind.u32 a))])]))
 else
 (bif (decide (And ((0 : Int) ≤ n) (n ≤ (1099511627776 : Int)))) then
 (Tree.letv (okO [(AT.i IntKind.u32), AT.b]) (K.trans m.core (IntKind.wrap IntKind.u32 (Int.ofNat (List.length m.mem))) a n) fun x0 =>
 (bif x0.snd then
 (Tree.leaf (SV.tup [(SV.v (Value.int IntKind.u32 x0.fst)), (SV.agg [(SV.v (Value.int IntKind.i64 (0 : Int))), (SV.v (Value.int IntKind.u32 (0 : Int)))])]))
 else
 (Tree.leaf (SV.tup [(SV.v (Value.int IntKind.u32 (0 : Int))), (SV.agg [(SV.v (Value.int IntKind.i64 (3 : Int))), (SV.v (Value.int IntKind.u32 a))])]))))
 else
 (Tree.fail)))
 else
 (bif (decide (And ((0 : Int) ≤ n) (n ≤ (1099511627776 : Int)))) then
 (Tree.letv (okO [(AT.i IntKind.u32), AT.b]) (K.trans m.core (IntKind.wrap IntKind.u32 (Int.ofNat (List.length m.mem))) a n) fun x0 =>
 (bif x0.snd then
 (Tree.leaf (SV.tup [(SV.v (Value.int IntKind.u32 x0.fst)), (SV.agg [(SV.v (Value.int IntKind.i64 (0 : Int))), (SV.v (Value.int IntKind.u32 (0 : Int)))])]))
 else
 (Tree.leaf (SV.tup [(SV.v (Value.int IntKind.u32 (0 : Int))), (SV.agg [(SV.v (Value.int IntKind.i64 (3 : Int))), (SV.v (Value.int IntKind.u32 a))])]))))
 else
 (Tree.fail)) := by kernel_rfl
section
attribute [local irreducible] evF evFL evFLs
theorem a_ref10_Cell (m : PMach) (a : Int) (n : Int) (hpre : n = 1 ∨ n = 4) (ok_m : okMach m) (ok_a : okI .u32 a) (ok_n : okI .i64 n) : (evF E_ref10_Cell 60 111 (encArgs [.mach, .i .u32, .i .i64] (m, a, n, ()))).ends fun out_ => decO [.i .u32, .trap] out_ = some (K.cell m a n) := by
  rw [t_ref10_Cell, Tree.ends_holds]
  obtain ⟨a0, a1⟩ := okI_u32 ok_a
  have hn : 1 ≤ n ∧ n ≤ 4 := by omega
  have e2 : Int.tmod a 4 = a % 4 := Int.tmod_eq_emod_of_nonneg a0
  have e3 : IntKind.u32.wrap (m.mem.length : Int) = (m.mem.length : Int) % 4294967296 := wrap32 _
  simp only [Tree.holds_loop, Tree.holds_fork, Tree.holds_next, if_true, Tree.holds_cond, Tree.holds_letv, Tree.holds_leaf, Tree.holds_fail, decO, decA, decTup, decMach, decCore, decTrap, decInstr, decPart, decGuest, decConf, decEvent, decVcpu, decStep, bytesS, boolS, eventsS, intsS, guestsS, vcpusS, rowS, castL, Option.bind_some, Option.map_some, Option.some.injEq, Nat.beq_refl, beq_self_eq_true, Bool.and_self, cond_true, cond_false, eq_self, beq_iff_eq, beq_eq_false_iff_ne, bne_iff_ne, bne_eq_false_iff_eq, ne_eq, decide_eq_true_eq, decide_eq_false_iff_not, ble_true, ble_false, inRange_iff, inRange_false, Int.ofNat_eq_natCast, e2, e3, K.cell]
  rcases hpre with h | h <;> subst h
  · have : a % 1 = 0 := by omega
    repeat' (first | refine drop_ok ?_ | intro _ | with_reducible apply And.intro)
    all_goals first | omega | (simp_all; done)
  · repeat' (first | refine drop_ok ?_ | intro _ | with_reducible apply And.intro)
    all_goals first | omega | (simp_all; done)
  
theorem c_ref10_Cell : SpecOk EB 111 S_ref10_Cell := spec_sig ok_ref10_Cell (n := 60) fun ⟨m, a, n, ⟨⟩⟩ h hok => a_ref10_Cell m a n (of_decide_eq_true h) (ok_mach (okSL_head hok)) (ok_int (okSL_head (okSL_tail hok))) (ok_int (okSL_head (okSL_tail (okSL_tail hok))))
end

/-! ref05_There -/

def S_ref05_There : Spec := sig [.i .i64, .i .u32, .i .i64] [.b] (fun (size, a, n, _) => K.inR size a n) (pre := fun (size, a, n, _) => decide (0 ≤ n ∧ n ≤ 1099511627776 ∧ 0 ≤ size))
noncomputable def E_ref05_There : Env := EB.adds []

theorem ok_ref05_There : EnvOk E_ref05_There := okEB.adds (l := _) trivial

theorem t_ref05_There (size : Int) (a : Int) (n : Int) : evF E_ref05_There 60 53 (encArgs [.i .i64, .i .u32, .i .i64] (size, a, n, ())) = 
 bif (decide ((IntKind.wrap IntKind.i64 a) ≤ (IntKind.wrap IntKind.i64 (size - n)))) then
 (Tree.leaf (SV.b true))
 else
 (Tree.leaf (SV.b false)) := by kernel_rfl
section
attribute [local irreducible] evF evFL evFLs
theorem a_ref05_There (size : Int) (a : Int) (n : Int) (hpre : 0 ≤ n ∧ n ≤ 1099511627776 ∧ 0 ≤ size) (ok_size : okI .i64 size) (ok_a : okI .u32 a) (ok_n : okI .i64 n) : (evF E_ref05_There 60 53 (encArgs [.i .i64, .i .u32, .i .i64] (size, a, n, ()))).ends fun out_ => decO [.b] out_ = some (K.inR size a n) := by
  rw [t_ref05_There, Tree.ends_holds]
  obtain ⟨a0, a1⟩ := okI_u32 ok_a
  obtain ⟨s0, s1⟩ := okI_i64 ok_size
  have e1 : IntKind.i64.wrap a = a := wrapI64 (by omega) (by omega)
  have e2 : IntKind.i64.wrap (size - n) = size - n := wrapI64 (by omega) (by omega)
  simp only [Tree.holds_loop, Tree.holds_fork, Tree.holds_next, if_true, Tree.holds_cond, Tree.holds_letv, Tree.holds_leaf, Tree.holds_fail, decO, decA, decTup, decMach, decCore, decTrap, decInstr, decPart, decGuest, decConf, decEvent, decVcpu, decStep, bytesS, boolS, eventsS, intsS, guestsS, vcpusS, rowS, castL, Option.bind_some, Option.map_some, Option.some.injEq, Nat.beq_refl, beq_self_eq_true, Bool.and_self, cond_true, cond_false, eq_self, beq_iff_eq, beq_eq_false_iff_ne, bne_iff_ne, bne_eq_false_iff_eq, ne_eq, decide_eq_true_eq, decide_eq_false_iff_not, ble_true, ble_false, inRange_iff, inRange_false, K.inR, e1, e2]
  repeat' (first | refine drop_ok ?_ | intro _ | with_reducible apply And.intro)
  all_goals (simp; omega)
  
theorem c_ref05_There : SpecOk EB 53 S_ref05_There := spec_sig ok_ref05_There (n := 60) fun ⟨size, a, n, ⟨⟩⟩ h hok => a_ref05_There size a n (of_decide_eq_true h) (ok_int (okSL_head hok)) (ok_int (okSL_head (okSL_tail hok))) (ok_int (okSL_head (okSL_tail (okSL_tail hok))))
end

/-! ref05_Load -/

def S_ref05_Load : Spec := sig [.rd .u8, .i .u32, .i .i64] [.i .u32, .b] (fun (m, a, n, _) => if K.inR m.length a n = true then (K.ld m a n, true) else (0, false)) (pre := fun (m, a, n, _) => decide (n = 1 ∨ n = 4))
noncomputable def E_ref05_Load : Env := EB.adds [(53, S_ref05_There)]

theorem ok_ref05_Load : EnvOk E_ref05_Load := okEB.adds (l := _) ⟨c_ref05_There, trivial⟩
theorem t1_c_ref05_Load (m : List Int) (a : Int) : evF E_ref05_Load 60 112 [.rd .u8 m, .v (.int .u32 a), .v (.int .i64 1)] = 
  bif (decide (And ((0 : Int) ≤ (1 : Int)) (And ((1 : Int) ≤ (1099511627776 : Int)) ((0 : Int) ≤ (Int.ofNat (List.length m)))))) then
    (Tree.letv (okO [AT.b]) (K.inR (Int.ofNat (List.length m)) a (1 : Int)) fun x0 =>
    (bif x0 then
      (bif (inRange (IntKind.wrap IntKind.i64 ((IntKind.wrap IntKind.i64 a) + (0 : Int))) (List.length m)) then
        (Tree.leaf (SV.tup [(SV.v (Value.int IntKind.u32 (IntKind.wrap IntKind.u32 ((0 : Int) + (IntKind.wrap IntKind.u32 (List.getD m (Int.toNat (IntKind.wrap IntKind.i64 ((IntKind.wrap IntKind.i64 a) + (0 : Int)))) (0 : Int))))))), (SV.b true)]))
      else
        (Tree.fail))
    else
      (Tree.leaf (SV.tup [(SV.v (Value.int IntKind.u32 (0 : Int))), (SV.b false)]))))
  else
    (Tree.fail) := by kernel_rfl
theorem t4_c_ref05_Load (m : List Int) (a : Int) : evF E_ref05_Load 60 112 [.rd .u8 m, .v (.int .u32 a), .v (.int .i64 4)] = 
  bif (decide (And ((0 : Int) ≤ (4 : Int)) (And ((4 : Int) ≤ (1099511627776 : Int)) ((0 : Int) ≤ (Int.ofNat (List.length m)))))) then
    (Tree.letv (okO [AT.b]) (K.inR (Int.ofNat (List.length m)) a (4 : Int)) fun x0 =>
    (bif x0 then
      (bif (inRange (IntKind.wrap IntKind.i64 ((IntKind.wrap IntKind.i64 a) + (3 : Int))) (List.length m)) then
        (bif (inRange (IntKind.wrap IntKind.i64 ((IntKind.wrap IntKind.i64 a) + (2 : Int))) (List.length m)) then
          (bif (inRange (IntKind.wrap IntKind.i64 ((IntKind.wrap IntKind.i64 a) + (1 : Int))) (List.length m)) then
            (bif (inRange (IntKind.wrap IntKind.i64 ((IntKind.wrap IntKind.i64 a) + (0 : Int))) (List.length m)) then
              (Tree.leaf (SV.tup [(SV.v (Value.int IntKind.u32 (IntKind.wrap IntKind.u32 ((IntKind.wrap IntKind.u32 ((IntKind.wrap IntKind.u32 ((IntKind.wrap IntKind.u32 ((IntKind.wrap IntKind.u32 ((IntKind.wrap IntKind.u32 ((IntKind.wrap IntKind.u32 ((0 : Int) + (IntKind.wrap IntKind.u32 (List.getD m (Int.toNat (IntKind.wrap IntKind.i64 ((IntKind.wrap IntKind.i64 a) + (3 : Int)))) (0 : Int))))) * (256 : Int))) + (IntKind.wrap IntKind.u32 (List.getD m (Int.toNat (IntKind.wrap IntKind.i64 ((IntKind.wrap IntKind.i64 a) + (2 : Int)))) (0 : Int))))) * (256 : Int))) + (IntKind.wrap IntKind.u32 (List.getD m (Int.toNat (IntKind.wrap IntKind.i64 ((IntKind.wrap IntKind.i64 a) + (1 : Int)))) (0 : Int))))) * (256 : Int))) + (IntKind.wrap IntKind.u32 (List.getD m (Int.toNat (IntKind.wrap IntKind.i64 ((IntKind.wrap IntKind.i64 a) + (0 : Int)))) (0 : Int))))))), (SV.b true)]))
            else
              (Tree.fail))
          else
            (Tree.fail))
        else
          (Tree.fail))
      else
        (Tree.fail))
    else
      (Tree.leaf (SV.tup [(SV.v (Value.int IntKind.u32 (0 : Int))), (SV.b false)]))))
  else
    (Tree.fail) := by kernel_rfl
theorem a1_c_ref05_Load (m : List Int) (a : Int) (ok_m : okBytes m) (ok_a : okI .u32 a) : (evF E_ref05_Load 60 112 [.rd .u8 m, .v (.int .u32 a), .v (.int .i64 1)]).ends fun out_ => decO [.i .u32, .b] out_ = some (if K.inR m.length a 1 = true then (K.ld m a 1, true) else (0, false)) := by
  rw [t1_c_ref05_Load, Tree.ends_holds]
  obtain ⟨a0, a1⟩ := okI_u32 ok_a
  have b0 := byte_at ok_m a.toNat
  have ew : IntKind.i64.wrap a = a := wrapI64 (by omega) (by omega)
  have i0 : IntKind.i64.wrap (a + 0) = a := by rw [wrapI64 (by omega) (by omega)]; omega
  have v0 : (0 * 256 % 4294967296 + m.getD a.toNat 0 % 4294967296) % 4294967296 = m.getD a.toNat 0 := by omega
  have v1 : (0 + m.getD a.toNat 0 % 4294967296) % 4294967296 = m.getD a.toNat 0 := by omega
  simp only [Tree.holds_loop, Tree.holds_fork, Tree.holds_next, if_true, Tree.holds_cond, Tree.holds_letv, Tree.holds_leaf, Tree.holds_fail, decO, decA, decTup, decMach, decCore, decTrap, decInstr, decPart, decGuest, decConf, decEvent, decVcpu, decStep, bytesS, boolS, eventsS, intsS, guestsS, vcpusS, rowS, castL, Option.bind_some, Option.map_some, Option.some.injEq, Nat.beq_refl, beq_self_eq_true, Bool.and_self, cond_true, cond_false, eq_self, beq_iff_eq, beq_eq_false_iff_ne, bne_iff_ne, bne_eq_false_iff_eq, ne_eq, decide_eq_true_eq, decide_eq_false_iff_not, ble_true, ble_false, inRange_iff, inRange_false, Int.ofNat_eq_natCast, ew, i0, wrap32, v0, v1]
  repeat' (first | refine drop_ok ?_ | intro _ | with_reducible apply And.intro)
  all_goals first | (rw [if_pos (by assumption)]; first | rfl | (congr 2; done) | (simp [K.ld]; omega)) | (rw [if_neg (by simp_all)]) | omega | (simp_all [K.inR]; omega)
theorem a4_c_ref05_Load (m : List Int) (a : Int) (ok_m : okBytes m) (ok_a : okI .u32 a) : (evF E_ref05_Load 60 112 [.rd .u8 m, .v (.int .u32 a), .v (.int .i64 4)]).ends fun out_ => decO [.i .u32, .b] out_ = some (if K.inR m.length a 4 = true then (K.ld m a 4, true) else (0, false)) := by
  rw [t4_c_ref05_Load, Tree.ends_holds]
  obtain ⟨a0, a1⟩ := okI_u32 ok_a
  have ew : IntKind.i64.wrap a = a := wrapI64 (by omega) (by omega)
  have i0 : IntKind.i64.wrap (a + 0) = a := by rw [wrapI64 (by omega) (by omega)]; omega
  have i1 : IntKind.i64.wrap (a + 1) = a + 1 := wrapI64 (by omega) (by omega)
  have i2 : IntKind.i64.wrap (a + 2) = a + 2 := wrapI64 (by omega) (by omega)
  have i3 : IntKind.i64.wrap (a + 3) = a + 3 := wrapI64 (by omega) (by omega)
  have n1 : (a + 1).toNat = a.toNat + 1 := by omega
  have n2 : (a + 2).toNat = a.toNat + 2 := by omega
  have n3 : (a + 3).toNat = a.toNat + 3 := by omega
  obtain ⟨p0, q0⟩ := byte_at ok_m a.toNat
  obtain ⟨p1, q1⟩ := byte_at ok_m (a.toNat + 1)
  obtain ⟨p2, q2⟩ := byte_at ok_m (a.toNat + 2)
  obtain ⟨p3, q3⟩ := byte_at ok_m (a.toNat + 3)
  have fin : ∀ x : Int, x = m.getD a.toNat 0 + 256 * m.getD (a.toNat + 1) 0 + 65536 * m.getD (a.toNat + 2) 0 + 16777216 * m.getD (a.toNat + 3) 0 → (x, true) = (K.ld m a 4, true) := fun x h => by rw [h]; rfl
  simp only [Tree.holds_loop, Tree.holds_fork, Tree.holds_next, if_true, Tree.holds_cond, Tree.holds_letv, Tree.holds_leaf, Tree.holds_fail, decO, decA, decTup, decMach, decCore, decTrap, decInstr, decPart, decGuest, decConf, decEvent, decVcpu, decStep, bytesS, boolS, eventsS, intsS, guestsS, vcpusS, rowS, castL, Option.bind_some, Option.map_some, Option.some.injEq, Nat.beq_refl, beq_self_eq_true, Bool.and_self, cond_true, cond_false, eq_self, beq_iff_eq, beq_eq_false_iff_ne, bne_iff_ne, bne_eq_false_iff_eq, ne_eq, decide_eq_true_eq, decide_eq_false_iff_not, ble_true, ble_false, inRange_iff, inRange_false, Int.ofNat_eq_natCast, ew, i0, i1, i2, i3, n1, n2, n3, wrap32]
  repeat' (first | refine drop_ok ?_ | intro _ | with_reducible apply And.intro)
  all_goals first | (rw [if_pos (by assumption)]; apply fin; omega) | (rw [if_neg (by simp_all)]) | omega | (simp_all [K.inR]; omega)
theorem c_ref05_Load : SpecOk EB 112 S_ref05_Load := spec_sig ok_ref05_Load (n := 60) fun ⟨m, a, n, ⟨⟩⟩ h hok => by
  have h := of_decide_eq_true h
  have o1 := ok_bytes (okSL_head hok)
  have o2 := ok_int (okSL_head (okSL_tail hok))
  rcases h with h | h
  · have h : n = 1 := h
    subst h; exact a1_c_ref05_Load m a o1 o2
  · have h : n = 4 := h
    subst h; exact a4_c_ref05_Load m a o1 o2


/-! ref10_Load -/

def S_ref10_Load : Spec := sig [.mach, .i .u32, .i .i64] [.i .u32, .trap] (fun (m, a, n, _) => K.load m a n) (pre := fun (m, a, n, _) => decide (n = 1 ∨ n = 4))
noncomputable def E_ref10_Load : Env := EB.adds [(111, S_ref10_Cell), (112, S_ref05_Load)]

theorem ok_ref10_Load : EnvOk E_ref10_Load := okEB.adds (l := _) ⟨c_ref10_Cell, c_ref05_Load, trivial⟩

theorem t_ref10_Load (m : PMach) (a : Int) (n : Int) : evF E_ref10_Load 60 78 (encArgs [.mach, .i .u32, .i .i64] (m, a, n, ())) = 
 bif (decide (Or (n = (1 : Int)) (n = (4 : Int)))) then
 (Tree.letv (okO [(AT.i IntKind.u32), AT.trap]) (K.cell m a n) fun x0 =>
 (bif (bne x0.snd.cause (0 : Int)) then
 (Tree.leaf (SV.tup [(SV.v (Value.int IntKind.u32 (0 : Int))), (SV.agg [(SV.v (Value.int IntKind.i64 x0.snd.cause)), (SV.v (Value.int IntKind.u32 x0.snd.tval))])]))
 else
 (bif (decide (Or (n = (1 : Int)) (n = (4 : Int)))) then
 (Tree.letv (okO [(AT.i IntKind.u32), AT.b]) (if ((K.inR (Int.ofNat (List.length m.mem)) x0.fst n) = true) then ((K.ld m.mem x0.fst n), true) else ((0 : Int), false)) fun x1 =>
 (bif x1.snd then
 (Tree.leaf (SV.tup [(SV.v (Value.int IntKind.u32 x1.fst)), (SV.agg [(SV.v (Value.int IntKind.i64 x0.snd.cause)), (SV.v (Value.int IntKind.u32 x0.snd.tval))])]))
 else
 (Tree.leaf (SV.tup [(SV.v (Value.int IntKind.u32 x1.fst)), (SV.agg [(SV.v (Value.int IntKind.i64 x0.snd.cause)), (SV.v (Value.int IntKind.u32 x0.snd.tval))])]))))
 else
 (Tree.fail))))
 else
 (Tree.fail) := by kernel_rfl
section
attribute [local irreducible] evF evFL evFLs
theorem a_ref10_Load (m : PMach) (a : Int) (n : Int) (hpre : n = 1 ∨ n = 4) (ok_m : okMach m) (ok_a : okI .u32 a) (ok_n : okI .i64 n) : (evF E_ref10_Load 60 78 (encArgs [.mach, .i .u32, .i .i64] (m, a, n, ()))).ends fun out_ => decO [.i .u32, .trap] out_ = some (K.load m a n) := by
  rw [t_ref10_Load, Tree.ends_holds]
  obtain ⟨a0, a1⟩ := okI_u32 ok_a
  have hr := fun h => cell_range ok_m.core (a := a) (n := n) a0 (by omega) h
  simp only [Tree.holds_loop, Tree.holds_fork, Tree.holds_next, if_true, Tree.holds_cond, Tree.holds_letv, Tree.holds_leaf, Tree.holds_fail, decO, decA, decTup, decMach, decCore, decTrap, decInstr, decPart, decGuest, decConf, decEvent, decVcpu, decStep, bytesS, boolS, eventsS, intsS, guestsS, vcpusS, rowS, castL, Option.bind_some, Option.map_some, Option.some.injEq, Nat.beq_refl, beq_self_eq_true, Bool.and_self, cond_true, cond_false, eq_self, beq_iff_eq, beq_eq_false_iff_ne, bne_iff_ne, bne_eq_false_iff_eq, ne_eq, decide_eq_true_eq, decide_eq_false_iff_not, ble_true, ble_false, inRange_iff, inRange_false, Int.ofNat_eq_natCast, K.load]
  by_cases h : (K.cell m a n).2.cause = 0
  · have ht := cell_zero h
    have hi : K.inR m.mem.length (K.cell m a n).1 n = true := by have := hr h; simp only [K.inR, decide_eq_true_eq]; omega
    simp only [h, ht, hi, if_true]
    simp [hpre]
  · simp [h, hpre]
  
theorem c_ref10_Load : SpecOk EB 78 S_ref10_Load := spec_sig ok_ref10_Load (n := 60) fun ⟨m, a, n, ⟨⟩⟩ h hok => a_ref10_Load m a n (of_decide_eq_true h) (ok_mach (okSL_head hok)) (ok_int (okSL_head (okSL_tail hok))) (ok_int (okSL_head (okSL_tail (okSL_tail hok))))
end

/-! ref01_Field -/

def S_ref01_Field : Spec := sig [.i .u32, .i .i64, .i .i64] [.i .u32] (fun (w, at_, n, _) => K.field w at_ n) (pre := fun (w, at_, n, _) => decide (at_ ≤ 63 ∧ n ≤ 63))
noncomputable def E_ref01_Field : Env := EB.adds [(92, S_ref01_Pow)]

theorem ok_ref01_Field : EnvOk E_ref01_Field := okEB.adds (l := _) ⟨c_ref01_Pow, trivial⟩

theorem t_ref01_Field (w : Int) (at_ : Int) (n : Int) : evF E_ref01_Field 60 76 (encArgs [.i .u32, .i .i64, .i .i64] (w, at_, n, ())) = 
 bif (decide (at_ ≤ (63 : Int))) then
 (Tree.letv (okO [(AT.i IntKind.u64)]) (K.pow at_) fun x0 =>
 (bif (bne x0 (0 : Int)) then
 (bif (decide (n ≤ (63 : Int))) then
 (Tree.letv (okO [(AT.i IntKind.u64)]) (K.pow n) fun x1 =>
 (bif (bne x1 (0 : Int)) then
 (Tree.leaf (SV.v (Value.int IntKind.u32 (IntKind.wrap IntKind.u32 (Int.tmod (IntKind.wrap IntKind.u64 (Int.tdiv (IntKind.wrap IntKind.u64 w) x0)) x1)))))
 else
 (Tree.fail)))
 else
 (Tree.fail))
 else
 (Tree.fail)))
 else
 (Tree.fail) := by kernel_rfl
section
attribute [local irreducible] evF evFL evFLs
theorem a_ref01_Field (w : Int) (at_ : Int) (n : Int) (hpre : at_ ≤ 63 ∧ n ≤ 63) (ok_w : okI .u32 w) (ok_at_ : okI .i64 at_) (ok_n : okI .i64 n) : (evF E_ref01_Field 60 76 (encArgs [.i .u32, .i .i64, .i .i64] (w, at_, n, ()))).ends fun out_ => decO [.i .u32] out_ = some (K.field w at_ n) := by
  rw [t_ref01_Field, Tree.ends_holds]
  obtain ⟨w0, w1⟩ := okI_u32 ok_w
  have p1 := K.pow_pos at_
  have p2 := K.pow_pos n
  have p3 := K.pow_le hpre.1
  have p4 := K.pow_le hpre.2
  have q1 : w / K.pow at_ ≤ w := Int.ediv_le_self _ w0
  have q0 : 0 ≤ w / K.pow at_ := Int.ediv_nonneg w0 (by omega)
  have q2 := Int.emod_nonneg (w / K.pow at_) (show K.pow n ≠ 0 by omega)
  have q3 : w / K.pow at_ % K.pow n ≤ w / K.pow at_ := emod_le q0 p2
  have e1 : IntKind.u64.wrap w = w := by rw [wrap64]; omega
  have e2 : Int.tdiv w (K.pow at_) = w / K.pow at_ := Int.tdiv_eq_ediv_of_nonneg w0
  have e3 : IntKind.u64.wrap (w / K.pow at_) = w / K.pow at_ := by rw [wrap64]; omega
  have e4 : Int.tmod (w / K.pow at_) (K.pow n) = w / K.pow at_ % K.pow n := Int.tmod_eq_emod_of_nonneg q0
  have e5 : IntKind.u32.wrap (w / K.pow at_ % K.pow n) = w / K.pow at_ % K.pow n := by rw [wrap32]; omega
  simp only [Tree.holds_loop, Tree.holds_fork, Tree.holds_next, if_true, Tree.holds_cond, Tree.holds_letv, Tree.holds_leaf, Tree.holds_fail, decO, decA, decTup, decMach, decCore, decTrap, decInstr, decPart, decGuest, decConf, decEvent, decVcpu, decStep, bytesS, boolS, eventsS, intsS, guestsS, vcpusS, rowS, castL, Option.bind_some, Option.map_some, Option.some.injEq, Nat.beq_refl, beq_self_eq_true, Bool.and_self, cond_true, cond_false, eq_self, K.field, decide_eq_true hpre.1, decide_eq_true hpre.2, e1, e2, e3, e4, e5]
  have n1 : (K.pow at_ != 0) = true := bne_iff_ne.2 (by omega)
  have n2 : (K.pow n != 0) = true := bne_iff_ne.2 (by omega)
  simp [n1, n2]
  
theorem c_ref01_Field : SpecOk EB 76 S_ref01_Field := spec_sig ok_ref01_Field (n := 60) fun ⟨w, at_, n, ⟨⟩⟩ h hok => a_ref01_Field w at_ n (of_decide_eq_true h) (ok_int (okSL_head hok)) (ok_int (okSL_head (okSL_tail hok))) (ok_int (okSL_head (okSL_tail (okSL_tail hok))))
end

/-! ref01_Sign -/

def S_ref01_Sign : Spec := sig [.i .u32, .i .i64] [.i .i32] (fun (v, n, _) => K.sext v) (pre := fun (v, n, _) => decide (n = 18))
noncomputable def E_ref01_Sign : Env := EB.adds [(76, S_ref01_Field), (92, S_ref01_Pow)]

theorem ok_ref01_Sign : EnvOk E_ref01_Sign := okEB.adds (l := _) ⟨c_ref01_Field, c_ref01_Pow, trivial⟩

theorem t_ref01_Sign (v : Int) (n : Int) : evF E_ref01_Sign 60 113 (encArgs [.i .u32, .i .i64] (v, n, ())) = 
 bif (decide (And ((0 : Int) ≤ (63 : Int)) (n ≤ (63 : Int)))) then
 (Tree.letv (okO [(AT.i IntKind.u32)]) (K.field v (0 : Int) n) fun x0 =>
 (bif (decide ((IntKind.wrap IntKind.i64 (n - (1 : Int))) ≤ (63 : Int))) then
 (Tree.letv (okO [(AT.i IntKind.u64)]) (K.pow (IntKind.wrap IntKind.i64 (n - (1 : Int)))) fun x1 =>
 (bif (decide ((IntKind.wrap IntKind.i64 x0) ≥ (IntKind.wrap IntKind.i64 x1))) then
 (bif (decide (n ≤ (63 : Int))) then
 (Tree.letv (okO [(AT.i IntKind.u64)]) (K.pow n) fun x2 =>
 (Tree.leaf (SV.v (Value.int IntKind.i32 (IntKind.wrap IntKind.i32 (IntKind.wrap IntKind.i64 ((IntKind.wrap IntKind.i64 x0) - (IntKind.wrap IntKind.i64 x2))))))))
 else
 (Tree.fail))
 else
 (Tree.leaf (SV.v (Value.int IntKind.i32 (IntKind.wrap IntKind.i32 (IntKind.wrap IntKind.i64 x0)))))))
 else
 (Tree.fail)))
 else
 (Tree.fail) := by kernel_rfl
section
attribute [local irreducible] evF evFL evFLs
theorem a_ref01_Sign (v : Int) (n : Int) (hpre : n = 18) (ok_v : okI .u32 v) (ok_n : okI .i64 n) : (evF E_ref01_Sign 60 113 (encArgs [.i .u32, .i .i64] (v, n, ()))).ends fun out_ => decO [.i .i32] out_ = some (K.sext v) := by
  rw [t_ref01_Sign, Tree.ends_holds]
  obtain ⟨v0, v1⟩ := okI_u32 ok_v
  subst hpre
  have e1 : K.field v 0 18 = v % 262144 := by simp [K.field, K.pow]
  have e2 : IntKind.i64.wrap (v % 262144) = v % 262144 := wrapI64 (by omega) (by omega)
  have e3 : IntKind.i64.wrap (K.pow (IntKind.i64.wrap (18 - 1))) = 131072 := by decide
  have e4 : IntKind.i64.wrap (K.pow 18) = 262144 := by decide
  have e5 : decide (IntKind.i64.wrap (18 - 1) ≤ 63) = true := by decide
  have e6 : IntKind.i64.wrap (v % 262144 - 262144) = v % 262144 - 262144 := wrapI64 (by omega) (by omega)
  have e7 : IntKind.i32.wrap (v % 262144) = v % 262144 := wrapI32 (by omega) (by omega)
  have e8 : IntKind.i32.wrap (v % 262144 - 262144) = v % 262144 - 262144 := wrapI32 (by omega) (by omega)
  simp only [Tree.holds_loop, Tree.holds_fork, Tree.holds_next, if_true, Tree.holds_cond, Tree.holds_letv, Tree.holds_leaf, Tree.holds_fail, decO, decA, decTup, decMach, decCore, decTrap, decInstr, decPart, decGuest, decConf, decEvent, decVcpu, decStep, bytesS, boolS, eventsS, intsS, guestsS, vcpusS, rowS, castL, Option.bind_some, Option.map_some, Option.some.injEq, Nat.beq_refl, beq_self_eq_true, Bool.and_self, cond_true, cond_false, eq_self, beq_iff_eq, beq_eq_false_iff_ne, bne_iff_ne, bne_eq_false_iff_eq, ne_eq, decide_eq_true_eq, decide_eq_false_iff_not, ble_true, ble_false, inRange_iff, inRange_false, e1, e2, e3, e4, e5, e6, e7, e8, K.sext]
  repeat' (first | refine drop_ok ?_ | intro _ | with_reducible apply And.intro)
  all_goals first | omega | (simp_all; done) | (simp_all; omega)
  
theorem c_ref01_Sign : SpecOk EB 113 S_ref01_Sign := spec_sig ok_ref01_Sign (n := 60) fun ⟨v, n, ⟨⟩⟩ h hok => a_ref01_Sign v n (of_decide_eq_true h) (ok_int (okSL_head hok)) (ok_int (okSL_head (okSL_tail hok)))
end


end Go.Proofs.YtmbmahgaejcjiaaGreatDoor
