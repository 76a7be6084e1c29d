/- Contracts of functions, by evaluation (nothing is claimed here). -/
import Derived.Test.YtchljgmcempedaaGreatDoorSh34
import Derived.KernelRfl
import Derived.Test.YtchljgmcempedaaGreatDoorProg
import Derived.Test.YtchljgmcempedaaGreatDoorRunMatchesReferenceB2
set_option linter.unusedVariables false
set_option linter.unusedSimpArgs false
set_option maxRecDepth 100000
set_option maxHeartbeats 1000000
namespace Go.Proofs.YtchljgmcempedaaGreatDoor
open Go
/-! exec_Execute -/

def S_exec_Execute : Spec := sig [.mach, .instr] [.mach, .trap] (fun (m, i, _) => K.exec m i) (pre := fun (m, i, _) => decide (1 ≤ i.op ∧ i.op ≤ 20 ∧ m.mem.length ≤ 1099511627776))
noncomputable def E_exec_Execute : Env := EB_1_2.adds [(69, S_regs_Get), (71, S_regs_Set), (74, S_exec_Advance), (117, S_alu_Eval), (115, S_alu_BranchTaken), (84, S_fetch_Load), (114, S_fetch_Store), (82, S_isa_FormatOf), (112, S_exec_at), (113, S_exec_size), (116, S_exec_far)]

theorem ok_exec_Execute : EnvOk E_exec_Execute := okEB_1_2.adds (l := _) ⟨(up_to_1_2 c_regs_Get), (up_to_1_2 c_regs_Set), (up_to_1_2 c_exec_Advance), (up_to_1_2 c_alu_Eval), (up_to_1_2 c_alu_BranchTaken), (up_2_to_1_2 c_fetch_Load), (up_2_to_1_2 c_fetch_Store), (up_1_to_1_2 c_isa_FormatOf), (up_to_1_2 c_exec_at), (up_to_1_2 c_exec_size), (up_to_1_2 c_exec_far), trivial⟩

theorem t_exec_Execute (m : PMach) (i : PInstr) : evF E_exec_Execute 60 44 (encArgs [.mach, .instr] (m, i, ())) = 
 Tree.letv (okO [(AT.i IntKind.u32)]) (K.get m.core.regs i.ra) fun x0 =>
 (Tree.letv (okO [(AT.i IntKind.u32)]) (K.get m.core.regs i.rb) fun x1 =>
 (Tree.letv (okO [(AT.i IntKind.u32)]) (K.get m.core.regs i.rd) fun x2 =>
 (bif (BEq.beq i.op (9 : Int)) then
 (Tree.letv (okO [(AT.i IntKind.u32)]) ((x0 + (i.imm % (4294967296 : Int))) % (4294967296 : Int)) fun x3 =>
 (Tree.letv (okO [(AT.a IntKind.u32 16)]) (K.put m.core.regs i.rd x3) fun x4 =>
 (Tree.letv (okO [AT.core]) (PCore.mk x4 ((m.core.pc + (4 : Int)) % (4294967296 : Int)) m.core.csr) fun x5 =>
 (Tree.leaf (SV.tup [(SV.agg [(SV.arr IntKind.u32 16 x5.regs), (SV.v (Value.int IntKind.u32 x5.pc)), (SV.arr IntKind.u32 12 x5.csr), (SV.rd ETy.u8 m.mem), (SV.v (Value.int IntKind.u64 m.time)), (SV.rd ETy.u8 m.out), (SV.v (Value.bool m.halted))]), (SV.agg [(SV.v (Value.int IntKind.i64 (0 : Int))), (SV.v (Value.int IntKind.u32 (0 : Int)))])])))))
 else
 (bif (BEq.beq i.op (10 : Int)) then
 (Tree.letv (okO [(AT.a IntKind.u32 16)]) (K.put m.core.regs i.rd (IntKind.wrap IntKind.u32 ((IntKind.wrap IntKind.u32 i.imm) * (16384 : Int)))) fun x3 =>
 (Tree.letv (okO [AT.core]) (PCore.mk x3 ((m.core.pc + (4 : Int)) % (4294967296 : Int)) m.core.csr) fun x4 =>
 (Tree.leaf (SV.tup [(SV.agg [(SV.arr IntKind.u32 16 x4.regs), (SV.v (Value.int IntKind.u32 x4.pc)), (SV.arr IntKind.u32 12 x4.csr), (SV.rd ETy.u8 m.mem), (SV.v (Value.int IntKind.u64 m.time)), (SV.rd ETy.u8 m.out), (SV.v (Value.bool m.halted))]), (SV.agg [(SV.v (Value.int IntKind.i64 (0 : Int))), (SV.v (Value.int IntKind.u32 (0 : Int)))])]))))
 else
 (bif (BEq.beq i.op (11 : Int)) then
 (Tree.letv (okO [(AT.i IntKind.u32)]) ((x0 + (i.imm % (4294967296 : Int))) % (4294967296 : Int)) fun x3 =>
 (Tree.letv (okO [(AT.i IntKind.i64)]) (if (Or (i.op = (13 : Int)) (i.op = (14 : Int))) then (1 : Int) else (4 : Int)) fun x4 =>
 (bif (decide (Or (x4 = (1 : Int)) (x4 = (4 : Int)))) then
 (Tree.letv (okO [(AT.i IntKind.u32), AT.trap]) (K.load m x3 x4) fun x5 =>
 (bif (BEq.beq x5.snd.cause (0 : Int)) then
 (Tree.letv (okO [(AT.a IntKind.u32 16)]) (K.put m.core.regs i.rd x5.fst) fun x6 =>
 (Tree.letv (okO [AT.core]) (PCore.mk x6 ((m.core.pc + (4 : Int)) % (4294967296 : Int)) m.core.csr) fun x7 =>
 (Tree.leaf (SV.tup [(SV.agg [(SV.arr IntKind.u32 16 x7.regs), (SV.v (Value.int IntKind.u32 x7.pc)), (SV.arr IntKind.u32 12 x7.csr), (SV.rd ETy.u8 m.mem), (SV.v (Value.int IntKind.u64 m.time)), (SV.rd ETy.u8 m.out), (SV.v (Value.bool m.halted))]), (SV.agg [(SV.v (Value.int IntKind.i64 x5.snd.cause)), (SV.v (Value.int IntKind.u32 x5.snd.tval))])]))))
 else
 (Tree.leaf (SV.tup [(SV.agg [(SV.arr IntKind.u32 16 m.core.regs), (SV.v (Value.int IntKind.u32 m.core.pc)), (SV.arr IntKind.u32 12 m.core.csr), (SV.rd ETy.u8 m.mem), (SV.v (Value.int IntKind.u64 m.time)), (SV.rd ETy.u8 m.out), (SV.v (Value.bool m.halted))]), (SV.agg [(SV.v (Value.int IntKind.i64 x5.snd.cause)), (SV.v (Value.int IntKind.u32 x5.snd.tval))])]))))
 else
 (Tree.fail))))
 else
 (bif (BEq.beq i.op (13 : Int)) then
 (Tree.letv (okO [(AT.i IntKind.u32)]) ((x0 + (i.imm % (4294967296 : Int))) % (4294967296 : Int)) fun x3 =>
 (Tree.letv (okO [(AT.i IntKind.i64)]) (if (Or (i.op = (13 : Int)) (i.op = (14 : Int))) then (1 : Int) else (4 : Int)) fun x4 =>
 (bif (decide (Or (x4 = (1 : Int)) (x4 = (4 : Int)))) then
 (Tree.letv (okO [(AT.i IntKind.u32), AT.trap]) (K.load m x3 x4) fun x5 =>
 (bif (BEq.beq x5.snd.cause (0 : Int)) then
 (Tree.letv (okO [(AT.a IntKind.u32 16)]) (K.put m.core.regs i.rd x5.fst) fun x6 =>
 (Tree.letv (okO [AT.core]) (PCore.mk x6 ((m.core.pc + (4 : Int)) % (4294967296 : Int)) m.core.csr) fun x7 =>
 (Tree.leaf (SV.tup [(SV.agg [(SV.arr IntKind.u32 16 x7.regs), (SV.v (Value.int IntKind.u32 x7.pc)), (SV.arr IntKind.u32 12 x7.csr), (SV.rd ETy.u8 m.mem), (SV.v (Value.int IntKind.u64 m.time)), (SV.rd ETy.u8 m.out), (SV.v (Value.bool m.halted))]), (SV.agg [(SV.v (Value.int IntKind.i64 x5.snd.cause)), (SV.v (Value.int IntKind.u32 x5.snd.tval))])]))))
 else
 (Tree.leaf (SV.tup [(SV.agg [(SV.arr IntKind.u32 16 m.core.regs), (SV.v (Value.int IntKind.u32 m.core.pc)), (SV.arr IntKind.u32 12 m.core.csr), (SV.rd ETy.u8 m.mem), (SV.v (Value.int IntKind.u64 m.time)), (SV.rd ETy.u8 m.out), (SV.v (Value.bool m.halted))]), (SV.agg [(SV.v (Value.int IntKind.i64 x5.snd.cause)), (SV.v (Value.int IntKind.u32 x5.snd.tval))])]))))
 else
 (Tree.fail))))
 else
 (bif (BEq.beq i.op (12 : Int)) then
 (Tree.letv (okO [(AT.i IntKind.u32)]) ((x0 + (i.imm % (4294967296 : Int))) % (4294967296 : Int)) fun x3 =>
 (Tree.letv (okO [(AT.i IntKind.i64)]) (if (Or (i.op = (13 : Int)) (i.op = (14 : Int))) then (1 : Int) else (4 : Int)) fun x4 =>
 (bif (decide (And (Or (x4 = (1 : Int)) (x4 = (4 : Int))) ((List.length m.mem) ≤ 1099511627776))) then
 (Tree.letv (okO [AT.mach, AT.trap]) (K.store m x3 x4 x2) fun x5 =>
 (bif (BEq.beq x5.snd.cause (0 : Int)) then
 (Tree.letv (okO [AT.core]) (PCore.mk x5.fst.core.regs ((x5.fst.core.pc + (4 : Int)) % (4294967296 : Int)) x5.fst.core.csr) fun x6 =>
 (Tree.leaf (SV.tup [(SV.agg [(SV.arr IntKind.u32 16 x6.regs), (SV.v (Value.int IntKind.u32 x6.pc)), (SV.arr IntKind.u32 12 x6.csr), (SV.rd ETy.u8 x5.fst.mem), (SV.v (Value.int IntKind.u64 x5.fst.time)), (SV.rd ETy.u8 x5.fst.out), (SV.v (Value.bool x5.fst.halted))]), (SV.agg [(SV.v (Value.int IntKind.i64 x5.snd.cause)), (SV.v (Value.int IntKind.u32 x5.snd.tval))])])))
 else
 (Tree.leaf (SV.tup [(SV.agg [(SV.arr IntKind.u32 16 m.core.regs), (SV.v (Value.int IntKind.u32 m.core.pc)), (SV.arr IntKind.u32 12 m.core.csr), (SV.rd ETy.u8 m.mem), (SV.v (Value.int IntKind.u64 m.time)), (SV.rd ETy.u8 m.out), (SV.v (Value.bool m.halted))]), (SV.agg [(SV.v (Value.int IntKind.i64 x5.snd.cause)), (SV.v (Value.int IntKind.u32 x5.snd.tval))])]))))
 else
 (Tree.fail))))
 else
 (bif (BEq.beq i.op (14 : Int)) then
 (Tree.letv (okO [(AT.i IntKind.u32)]) ((x0 + (i.imm % (4294967296 : Int))) % (4294967296 : Int)) fun x3 =>
 (Tree.letv (okO [(AT.i IntKind.i64)]) (if (Or (i.op = (13 : Int)) (i.op = (14 : Int))) then (1 : Int) else (4 : Int)) fun x4 =>
 (bif (decide (And (Or (x4 = (1 : Int)) (x4 = (4 : Int))) ((List.length m.mem) ≤ 1099511627776))) then
 (Tree.letv (okO [AT.mach, AT.trap]) (K.store m x3 x4 x2) fun x5 =>
 (bif (BEq.beq x5.snd.cause (0 : Int)) then
 (Tree.letv (okO [AT.core]) (PCore.mk x5.fst.core.regs ((x5.fst.core.pc + (4 : Int)) % (4294967296 : Int)) x5.fst.core.csr) fun x6 =>
 (Tree.leaf (SV.tup [(SV.agg [(SV.arr IntKind.u32 16 x6.regs), (SV.v (Value.int IntKind.u32 x6.pc)), (SV.arr IntKind.u32 12 x6.csr), (SV.rd ETy.u8 x5.fst.mem), (SV.v (Value.int IntKind.u64 x5.fst.time)), (SV.rd ETy.u8 x5.fst.out), (SV.v (Value.bool x5.fst.halted))]), (SV.agg [(SV.v (Value.int IntKind.i64 x5.snd.cause)), (SV.v (Value.int IntKind.u32 x5.snd.tval))])])))
 else
 (Tree.leaf (SV.tup [(SV.agg [(SV.arr IntKind.u32 16 m.core.regs), (SV.v (Value.int IntKind.u32 m.core.pc)), (SV.arr IntKind.u32 12 m.core.csr), (SV.rd ETy.u8 m.mem), (SV.v (Value.int IntKind.u64 m.time)), (SV.rd ETy.u8 m.out), (SV.v (Value.bool m.halted))]), (SV.agg [(SV.v (Value.int IntKind.i64 x5.snd.cause)), (SV.v (Value.int IntKind.u32 x5.snd.tval))])]))))
 else
 (Tree.fail))))
 else
 (bif (BEq.beq i.op (15 : Int)) then
 (Tree.letv (okO [AT.b]) (K.taken i.op x2 x0) fun x3 =>
 (bif x3 then
 (Tree.letv (okO [(AT.i IntKind.u32)]) (((4 : Int) * (i.imm % (4294967296 : Int))) % (4294967296 : Int)) fun x4 =>
 (Tree.letv (okO [AT.core]) (PCore.mk m.core.regs ((m.core.pc + x4) % (4294967296 : Int)) m.core.csr) fun x5 =>
 (Tree.leaf (SV.tup [(SV.agg [(SV.arr IntKind.u32 16 x5.regs), (SV.v (Value.int IntKind.u32 x5.pc)), (SV.arr IntKind.u32 12 x5.csr), (SV.rd ETy.u8 m.mem), (SV.v (Value.int IntKind.u64 m.time)), (SV.rd ETy.u8 m.out), (SV.v (Value.bool m.halted))]), (SV.agg [(SV.v (Value.int IntKind.i64 (0 : Int))), (SV.v (Value.int IntKind.u32 (0 : Int)))])]))))
 else
 (Tree.letv (okO [AT.core]) (PCore.mk m.core.regs ((m.core.pc + (4 : Int)) % (4294967296 : Int)) m.core.csr) fun x4 =>
 (Tree.leaf (SV.tup [(SV.agg [(SV.arr IntKind.u32 16 x4.regs), (SV.v (Value.int IntKind.u32 x4.pc)), (SV.arr IntKind.u32 12 x4.csr), (SV.rd ETy.u8 m.mem), (SV.v (Value.int IntKind.u64 m.time)), (SV.rd ETy.u8 m.out), (SV.v (Value.bool m.halted))]), (SV.agg [(SV.v (Value.int IntKind.i64 (0 : Int))), (SV.v (Value.int IntKind.u32 (0 : Int)))])])))))
 else
 (bif (BEq.beq i.op (16 : Int)) then
 (Tree.letv (okO [AT.b]) (K.taken i.op x2 x0) fun x3 =>
 (bif x3 then
 (Tree.letv (okO [(AT.i IntKind.u32)]) (((4 : Int) * (i.imm % (4294967296 : Int))) % (4294967296 : Int)) fun x4 =>
 (Tree.letv (okO [AT.core]) (PCore.mk m.core.regs ((m.core.pc + x4) % (4294967296 : Int)) m.core.csr) fun x5 =>
 (Tree.leaf (SV.tup [(SV.agg [(SV.arr IntKind.u32 16 x5.regs), (SV.v (Value.int IntKind.u32 x5.pc)), (SV.arr IntKind.u32 12 x5.csr), (SV.rd ETy.u8 m.mem), (SV.v (Value.int IntKind.u64 m.time)), (SV.rd ETy.u8 m.out), (SV.v (Value.bool m.halted))]), (SV.agg [(SV.v (Value.int IntKind.i64 (0 : Int))), (SV.v (Value.int IntKind.u32 (0 : Int)))])]))))
 else
 (Tree.letv (okO [AT.core]) (PCore.mk m.core.regs ((m.core.pc + (4 : Int)) % (4294967296 : Int)) m.core.csr) fun x4 =>
 (Tree.leaf (SV.tup [(SV.agg [(SV.arr IntKind.u32 16 x4.regs), (SV.v (Value.int IntKind.u32 x4.pc)), (SV.arr IntKind.u32 12 x4.csr), (SV.rd ETy.u8 m.mem), (SV.v (Value.int IntKind.u64 m.time)), (SV.rd ETy.u8 m.out), (SV.v (Value.bool m.halted))]), (SV.agg [(SV.v (Value.int IntKind.i64 (0 : Int))), (SV.v (Value.int IntKind.u32 (0 : Int)))])])))))
 else
 (bif (BEq.beq i.op (17 : Int)) then
 (Tree.letv (okO [AT.b]) (K.taken i.op x2 x0) fun x3 =>
 (bif x3 then
 (Tree.letv (okO [(AT.i IntKind.u32)]) (((4 : Int) * (i.imm % (4294967296 : Int))) % (4294967296 : Int)) fun x4 =>
 (Tree.letv (okO [AT.core]) (PCore.mk m.core.regs ((m.core.pc + x4) % (4294967296 : Int)) m.core.csr) fun x5 =>
 (Tree.leaf (SV.tup [(SV.agg [(SV.arr IntKind.u32 16 x5.regs), (SV.v (Value.int IntKind.u32 x5.pc)), (SV.arr IntKind.u32 12 x5.csr), (SV.rd ETy.u8 m.mem), (SV.v (Value.int IntKind.u64 m.time)), (SV.rd ETy.u8 m.out), (SV.v (Value.bool m.halted))]), (SV.agg [(SV.v (Value.int IntKind.i64 (0 : Int))), (SV.v (Value.int IntKind.u32 (0 : Int)))])]))))
 else
 (Tree.letv (okO [AT.core]) (PCore.mk m.core.regs ((m.core.pc + (4 : Int)) % (4294967296 : Int)) m.core.csr) fun x4 =>
 (Tree.leaf (SV.tup [(SV.agg [(SV.arr IntKind.u32 16 x4.regs), (SV.v (Value.int IntKind.u32 x4.pc)), (SV.arr IntKind.u32 12 x4.csr), (SV.rd ETy.u8 m.mem), (SV.v (Value.int IntKind.u64 m.time)), (SV.rd ETy.u8 m.out), (SV.v (Value.bool m.halted))]), (SV.agg [(SV.v (Value.int IntKind.i64 (0 : Int))), (SV.v (Value.int IntKind.u32 (0 : Int)))])])))))
 else
 (bif (BEq.beq i.op (18 : Int)) then
 (Tree.letv (okO [(AT.i IntKind.u32)]) (((4 : Int) * (i.imm % (4294967296 : Int))) % (4294967296 : Int)) fun x3 =>
 (bif (BEq.beq i.op (19 : Int)) then
 (Tree.letv (okO [(AT.i IntKind.u32)]) ((x0 + (i.imm % (4294967296 : Int))) % (4294967296 : Int)) fun x4 =>
 (Tree.letv (okO [(AT.a IntKind.u32 16)]) (K.put m.core.regs i.rd (IntKind.wrap IntKind.u32 (m.core.pc + (4 : Int)))) fun x5 =>
 (Tree.letv (okO [AT.core]) (PCore.mk x5 ((m.core.pc + (4 : Int)) % (4294967296 : Int)) m.core.csr) fun x6 =>
 (Tree.leaf (SV.tup [(SV.agg [(SV.arr IntKind.u32 16 x6.regs), (SV.v (Value.int IntKind.u32 x4)), (SV.arr IntKind.u32 12 x6.csr), (SV.rd ETy.u8 m.mem), (SV.v (Value.int IntKind.u64 m.time)), (SV.rd ETy.u8 m.out), (SV.v (Value.bool m.halted))]), (SV.agg [(SV.v (Value.int IntKind.i64 (0 : Int))), (SV.v (Value.int IntKind.u32 (0 : Int)))])])))))
 else
 (Tree.letv (okO [(AT.a IntKind.u32 16)]) (K.put m.core.regs i.rd (IntKind.wrap IntKind.u32 (m.core.pc + (4 : Int)))) fun x4 =>
 (Tree.letv (okO [AT.core]) (PCore.mk x4 ((m.core.pc + (4 : Int)) % (4294967296 : Int)) m.core.csr) fun x5 =>
 (Tree.leaf (SV.tup [(SV.agg [(SV.arr IntKind.u32 16 x5.regs), (SV.v (Value.int IntKind.u32 (IntKind.wrap IntKind.u32 (m.core.pc + x3)))), (SV.arr IntKind.u32 12 x5.csr), (SV.rd ETy.u8 m.mem), (SV.v (Value.int IntKind.u64 m.time)), (SV.rd ETy.u8 m.out), (SV.v (Value.bool m.halted))]), (SV.agg [(SV.v (Value.int IntKind.i64 (0 : Int))), (SV.v (Value.int IntKind.u32 (0 : Int)))])]))))))
 else
 (bif (BEq.beq i.op (19 : Int)) then
 (Tree.letv (okO [(AT.i IntKind.u32)]) (((4 : Int) * (i.imm % (4294967296 : Int))) % (4294967296 : Int)) fun x3 =>
 (bif (BEq.beq i.op (19 : Int)) then
 (Tree.letv (okO [(AT.i IntKind.u32)]) ((x0 + (i.imm % (4294967296 : Int))) % (4294967296 : Int)) fun x4 =>
 (Tree.letv (okO [(AT.a IntKind.u32 16)]) (K.put m.core.regs i.rd (IntKind.wrap IntKind.u32 (m.core.pc + (4 : Int)))) fun x5 =>
 (Tree.letv (okO [AT.core]) (PCore.mk x5 ((m.core.pc + (4 : Int)) % (4294967296 : Int)) m.core.csr) fun x6 =>
 (Tree.leaf (SV.tup [(SV.agg [(SV.arr IntKind.u32 16 x6.regs), (SV.v (Value.int IntKind.u32 x4)), (SV.arr IntKind.u32 12 x6.csr), (SV.rd ETy.u8 m.mem), (SV.v (Value.int IntKind.u64 m.time)), (SV.rd ETy.u8 m.out), (SV.v (Value.bool m.halted))]), (SV.agg [(SV.v (Value.int IntKind.i64 (0 : Int))), (SV.v (Value.int IntKind.u32 (0 : Int)))])])))))
 else
 (Tree.letv (okO [(AT.a IntKind.u32 16)]) (K.put m.core.regs i.rd (IntKind.wrap IntKind.u32 (m.core.pc + (4 : Int)))) fun x4 =>
 (Tree.letv (okO [AT.core]) (PCore.mk x4 ((m.core.pc + (4 : Int)) % (4294967296 : Int)) m.core.csr) fun x5 =>
 (Tree.leaf (SV.tup [(SV.agg [(SV.arr IntKind.u32 16 x5.regs), (SV.v (Value.int IntKind.u32 (IntKind.wrap IntKind.u32 (m.core.pc + x3)))), (SV.arr IntKind.u32 12 x5.csr), (SV.rd ETy.u8 m.mem), (SV.v (Value.int IntKind.u64 m.time)), (SV.rd ETy.u8 m.out), (SV.v (Value.bool m.halted))]), (SV.agg [(SV.v (Value.int IntKind.i64 (0 : Int))), (SV.v (Value.int IntKind.u32 (0 : Int)))])]))))))
 else
 (bif (BEq.beq i.op (20 : Int)) then
 (Tree.leaf (SV.tup [(SV.agg [(SV.arr IntKind.u32 16 m.core.regs), (SV.v (Value.int IntKind.u32 m.core.pc)), (SV.arr IntKind.u32 12 m.core.csr), (SV.rd ETy.u8 m.mem), (SV.v (Value.int IntKind.u64 m.time)), (SV.rd ETy.u8 m.out), (SV.v (Value.bool m.halted))]), (SV.agg [(SV.v (Value.int IntKind.i64 (5 : Int))), (SV.v (Value.int IntKind.u32 (0 : Int)))])]))
 else
 (Tree.letv (okO [(AT.i IntKind.i64)]) (K.form i.op) fun x3 =>
 (bif (BEq.beq x3 (1 : Int)) then
 (Tree.letv (okO [(AT.i IntKind.u32)]) (K.alu i.op x0 x1) fun x4 =>
 (Tree.letv (okO [(AT.a IntKind.u32 16)]) (K.put m.core.regs i.rd x4) fun x5 =>
 (Tree.letv (okO [AT.core]) (PCore.mk x5 ((m.core.pc + (4 : Int)) % (4294967296 : Int)) m.core.csr) fun x6 =>
 (Tree.leaf (SV.tup [(SV.agg [(SV.arr IntKind.u32 16 x6.regs), (SV.v (Value.int IntKind.u32 x6.pc)), (SV.arr IntKind.u32 12 x6.csr), (SV.rd ETy.u8 m.mem), (SV.v (Value.int IntKind.u64 m.time)), (SV.rd ETy.u8 m.out), (SV.v (Value.bool m.halted))]), (SV.agg [(SV.v (Value.int IntKind.i64 (0 : Int))), (SV.v (Value.int IntKind.u32 (0 : Int)))])])))))
 else
 (Tree.leaf (SV.tup [(SV.agg [(SV.arr IntKind.u32 16 m.core.regs), (SV.v (Value.int IntKind.u32 m.core.pc)), (SV.arr IntKind.u32 12 m.core.csr), (SV.rd ETy.u8 m.mem), (SV.v (Value.int IntKind.u64 m.time)), (SV.rd ETy.u8 m.out), (SV.v (Value.bool m.halted))]), (SV.agg [(SV.v (Value.int IntKind.i64 (0 : Int))), (SV.v (Value.int IntKind.u32 (0 : Int)))])])))))))))))))))))) := by kernel_rfl
section
attribute [local irreducible] evF evFL evFLs evFM
theorem a_exec_Execute (m : PMach) (i : PInstr) (hpre : 1 ≤ i.op ∧ i.op ≤ 20 ∧ m.mem.length ≤ 1099511627776) (ok_m : okMach m) (ok_i : okInstr i) : (evF E_exec_Execute 60 44 (encArgs [.mach, .instr] (m, i, ()))).ends fun out_ => decO [.mach, .trap] out_ = some (K.exec m i) := by
  rw [t_exec_Execute, Tree.ends_holds]
  obtain ⟨im0, im1⟩ := okI_i32 ok_i.imm
  have hpre1 := hpre.1
  have hpre2 := hpre.2.1
  simp only [Tree.holds_loop, Tree.holds_fork, Tree.holds_next, if_true, Tree.holds_cond, Tree.holds_letv, Tree.holds_leaf, Tree.holds_fail, decO, decA, decTup, decMach, decCore, decTrap, decInstr, decPart, decGuest, decConf, decEvent, decVcpu, decStep, bytesS, boolS, eventsS, intsS, guestsS, vcpusS, rowS, castL, Option.bind_some, Option.map_some, Option.some.injEq, Nat.beq_refl, beq_self_eq_true, Bool.and_self, cond_true, cond_false, eq_self, beq_iff_eq, beq_eq_false_iff_ne, bne_iff_ne, bne_eq_false_iff_eq, ne_eq, decide_eq_true_eq, decide_eq_false_iff_not, ble_true, ble_false, inRange_iff, inRange_false, wrap32]
  have e0 : (K.get m.core.regs i.ra + i.imm % 4294967296) % 4294967296 = K.ea m i := rfl
  have e1 : 4 * (i.imm % 4294967296) % 4294967296 = K.far i := by unfold K.far; omega
  have x1 : 1 ≤ i.op → i.op ≤ 8 → K.exec m i = _ := fun a b => by unfold K.exec; rw [if_pos ⟨a, b⟩]
  have x9 : i.op = 9 → K.exec m i = _ := fun a => by unfold K.exec; rw [if_neg (by omega), if_pos a]
  have x10 : i.op = 10 → K.exec m i = _ := fun a => by unfold K.exec; rw [if_neg (by omega), if_neg (by omega), if_pos a]
  have x11 : i.op = 11 ∨ i.op = 13 → K.exec m i = _ := fun a => by unfold K.exec; rw [if_neg (by omega), if_neg (by omega), if_neg (by omega), if_pos a]
  have x12 : i.op = 12 ∨ i.op = 14 → K.exec m i = _ := fun a => by unfold K.exec; rw [if_neg (by omega), if_neg (by omega), if_neg (by omega), if_neg (by omega), if_pos a]
  have x15 : 15 ≤ i.op → i.op ≤ 17 → K.exec m i = _ := fun a b => by unfold K.exec; rw [if_neg (by omega), if_neg (by omega), if_neg (by omega), if_neg (by omega), if_neg (by omega), if_pos ⟨a, b⟩]
  have x18 : i.op = 18 → K.exec m i = _ := fun a => by unfold K.exec; rw [if_neg (by omega), if_neg (by omega), if_neg (by omega), if_neg (by omega), if_neg (by omega), if_neg (by omega), if_pos a]
  have x19 : i.op = 19 → K.exec m i = _ := fun a => by unfold K.exec; rw [if_neg (by omega), if_neg (by omega), if_neg (by omega), if_neg (by omega), if_neg (by omega), if_neg (by omega), if_neg (by omega), if_pos a]
  have x20 : i.op = 20 → K.exec m i = (m, ⟨5, 0⟩) := fun a => by unfold K.exec; rw [if_neg (by omega), if_neg (by omega), if_neg (by omega), if_neg (by omega), if_neg (by omega), if_neg (by omega), if_neg (by omega), if_neg (by omega)]
  have hform : K.form i.op = 1 → i.op ≤ 8 := fun h => by unfold K.form at h; (repeat' split at h) <;> omega
  have hform2 : ¬ K.form i.op = 1 → 8 < i.op := fun h => by
    unfold K.form at h
    by_cases q : i.op ≤ 8
    · rw [if_pos ⟨hpre1, q⟩] at h; exact absurd rfl h
    · omega
  simp only [e0, e1]
  clear ok_m ok_i im0 im1
  have lz := fun a n => load_zero (m := m) (a := a) (n := n)
  have sz := fun a n v => store_zero (m := m) (a := a) (n := n) (v := v)
  have ss := fun a n v => store_same (m := m) (a := a) (n := n) (v := v)
  repeat' (first | refine drop_ok ?_ | intro _ | with_reducible apply And.intro)
  all_goals try omega
  all_goals try (rw [x9 (by assumption)]; rfl)
  all_goals try (rw [x10 (by assumption)]; rfl)
  all_goals try (rw [x18 (by assumption)]; rfl)
  all_goals try (rw [x19 (by assumption)]; rfl)
  all_goals try (rw [x20 (by assumption)])
  all_goals try (rw [x1 hpre1 (hform (by assumption))]; rfl)
  all_goals try (
    have q : i.op = 11 := by assumption
    have n1 : (if i.op = 13 ∨ i.op = 14 then (1 : Int) else 4) = 4 := if_neg (by omega)
    have n2 : (if i.op = 13 then (1 : Int) else 4) = 4 := if_neg (by omega)
    rw [x11 (.inl q)]
    simp only [n1, n2] at *
    first
      | (have c : (K.load m (K.ea m i) 4).2.cause = 0 := by assumption
         rw [if_pos c]; simp only [c, lz _ _ c]; rfl)
      | (rw [if_neg (show ¬ (K.load m (K.ea m i) 4).2.cause = 0 by assumption)]; first | done | rfl))
  all_goals try (
    have q : i.op = 13 := by assumption
    have n1 : (if i.op = 13 ∨ i.op = 14 then (1 : Int) else 4) = 1 := if_pos (by omega)
    have n2 : (if i.op = 13 then (1 : Int) else 4) = 1 := if_pos (by omega)
    rw [x11 (.inr q)]
    simp only [n1, n2] at *
    first
      | (have c : (K.load m (K.ea m i) 1).2.cause = 0 := by assumption
         rw [if_pos c]; simp only [c, lz _ _ c]; rfl)
      | (rw [if_neg (show ¬ (K.load m (K.ea m i) 1).2.cause = 0 by assumption)]; first | done | rfl))
  all_goals try (
    have q : i.op = 12 := by assumption
    have n1 : (if i.op = 13 ∨ i.op = 14 then (1 : Int) else 4) = 4 := if_neg (by omega)
    have n2 : (if i.op = 14 then (1 : Int) else 4) = 4 := if_neg (by omega)
    rw [x12 (.inl q)]
    simp only [n1, n2] at *
    first
      | (have c : (K.store m (K.ea m i) 4 (K.get m.core.regs i.rd)).2.cause = 0 := by assumption
         obtain ⟨s1, s2, s3, s4⟩ := ss (K.ea m i) 4 (K.get m.core.regs i.rd)
         rw [if_pos c]; simp only [c, sz _ _ _ c, s1]; simp only [K.wpc, s1])
      | (rw [if_neg (show ¬ (K.store m (K.ea m i) 4 (K.get m.core.regs i.rd)).2.cause = 0 by assumption)]; first | done | rfl))
  all_goals try (
    have q : i.op = 14 := by assumption
    have n1 : (if i.op = 13 ∨ i.op = 14 then (1 : Int) else 4) = 1 := if_pos (by omega)
    have n2 : (if i.op = 14 then (1 : Int) else 4) = 1 := if_pos (by omega)
    rw [x12 (.inr q)]
    simp only [n1, n2] at *
    first
      | (have c : (K.store m (K.ea m i) 1 (K.get m.core.regs i.rd)).2.cause = 0 := by assumption
         obtain ⟨s1, s2, s3, s4⟩ := ss (K.ea m i) 1 (K.get m.core.regs i.rd)
         rw [if_pos c]; simp only [c, sz _ _ _ c, s1]; simp only [K.wpc, s1])
      | (rw [if_neg (show ¬ (K.store m (K.ea m i) 1 (K.get m.core.regs i.rd)).2.cause = 0 by assumption)]; first | done | rfl))
  all_goals try (rw [x15 (by omega) (by omega), if_pos (by assumption)]; rfl)
  all_goals try (rw [x15 (by omega) (by omega), if_neg (by rw [show K.taken i.op (K.get m.core.regs i.rd) (K.get m.core.regs i.ra) = false by assumption]; decide)]; rfl)
  all_goals try (have := hform2 (by assumption); omega)
  all_goals try (exfalso; rename_i q; apply q; split <;> simp; done)
  all_goals try (exfalso; rename_i q; apply q; refine ⟨?_, hpre.2.2⟩; split <;> simp; done)
  
theorem c_exec_Execute : SpecOk EB_1_2 44 S_exec_Execute := spec_sig ok_exec_Execute (n := 60) fun ⟨m, i, ⟨⟩⟩ h hok => a_exec_Execute m i (of_decide_eq_true h) (ok_mach (okSL_head hok)) (ok_instr (okSL_head (okSL_tail hok)))
end

/-! step_StepNoTimer -/

def S_step_StepNoTimer : Spec := sig [.mach] [.mach, .trap] (fun (m, _) => K.plain m) (pre := fun (m, _) => decide (m.mem.length ≤ 1099511627776 ∧ m.out.length ≤ 1099511627776))
noncomputable def E_step_StepNoTimer : Env := EB_0_1_2.adds [(25, S_step_Current), (41, S_step_end), (42, S_isa_IsPrivileged), (43, S_priv_Execute), (44, S_exec_Execute)]

theorem ok_step_StepNoTimer : EnvOk E_step_StepNoTimer := okEB_0_1_2.adds (l := _) ⟨c_step_Current, (up_to_0_1_2 c_step_end), (up_to_0_1_2 c_isa_IsPrivileged), (up_to_0_1_2 c_priv_Execute), (up_1_2_to_0_1_2 c_exec_Execute), trivial⟩

theorem t_step_StepNoTimer (m : PMach) : evF E_step_StepNoTimer 60 24 (encArgs [.mach] (m, ())) = 
 bif m.halted then
 (Tree.leaf (SV.tup [(SV.agg [(SV.arr IntKind.u32 16 m.core.regs), (SV.v (Value.int IntKind.u32 m.core.pc)), (SV.arr IntKind.u32 12 m.core.csr), (SV.rd ETy.u8 m.mem), (SV.v (Value.int IntKind.u64 m.time)), (SV.rd ETy.u8 m.out), (SV.v (Value.bool m.halted))]), (SV.agg [(SV.v (Value.int IntKind.i64 (0 : Int))), (SV.v (Value.int IntKind.u32 (0 : Int)))])]))
 else
 (Tree.letv (okO [AT.instr, AT.trap]) (K.cur m) fun x0 =>
 (bif (bne x0.snd.cause (0 : Int)) then
 (Tree.letv (okO [AT.mach, AT.trap]) (K.endS m x0.snd) fun x1 =>
 (Tree.leaf (SV.tup [(SV.agg [(SV.arr IntKind.u32 16 x1.fst.core.regs), (SV.v (Value.int IntKind.u32 x1.fst.core.pc)), (SV.arr IntKind.u32 12 x1.fst.core.csr), (SV.rd ETy.u8 x1.fst.mem), (SV.v (Value.int IntKind.u64 x1.fst.time)), (SV.rd ETy.u8 x1.fst.out), (SV.v (Value.bool x1.fst.halted))]), (SV.agg [(SV.v (Value.int IntKind.i64 x1.snd.cause)), (SV.v (Value.int IntKind.u32 x1.snd.tval))])])))
 else
 (Tree.letv (okO [AT.b]) (K.privd x0.fst.op) fun x1 =>
 (bif x1 then
 (bif (decide ((List.length m.out) ≤ 1099511627776)) then
 (Tree.letv (okO [AT.mach]) (K.priv m x0.fst) fun x2 =>
 (Tree.letv (okO [AT.mach, AT.trap]) (K.endS x2 x0.snd) fun x3 =>
 (Tree.leaf (SV.tup [(SV.agg [(SV.arr IntKind.u32 16 x3.fst.core.regs), (SV.v (Value.int IntKind.u32 x3.fst.core.pc)), (SV.arr IntKind.u32 12 x3.fst.core.csr), (SV.rd ETy.u8 x3.fst.mem), (SV.v (Value.int IntKind.u64 x3.fst.time)), (SV.rd ETy.u8 x3.fst.out), (SV.v (Value.bool x3.fst.halted))]), (SV.agg [(SV.v (Value.int IntKind.i64 x3.snd.cause)), (SV.v (Value.int IntKind.u32 x3.snd.tval))])]))))
 else
 (Tree.fail))
 else
 (bif (decide (And ((1 : Int) ≤ x0.fst.op) (And (x0.fst.op ≤ (20 : Int)) ((List.length m.mem) ≤ 1099511627776)))) then
 (Tree.letv (okO [AT.mach, AT.trap]) (K.exec m x0.fst) fun x2 =>
 (Tree.letv (okO [AT.mach, AT.trap]) (K.endS x2.fst x2.snd) fun x3 =>
 (Tree.leaf (SV.tup [(SV.agg [(SV.arr IntKind.u32 16 x3.fst.core.regs), (SV.v (Value.int IntKind.u32 x3.fst.core.pc)), (SV.arr IntKind.u32 12 x3.fst.core.csr), (SV.rd ETy.u8 x3.fst.mem), (SV.v (Value.int IntKind.u64 x3.fst.time)), (SV.rd ETy.u8 x3.fst.out), (SV.v (Value.bool x3.fst.halted))]), (SV.agg [(SV.v (Value.int IntKind.i64 x3.snd.cause)), (SV.v (Value.int IntKind.u32 x3.snd.tval))])]))))
 else
 (Tree.fail)))))) := by kernel_rfl
section
attribute [local irreducible] evF evFL evFLs evFM
theorem a_step_StepNoTimer (m : PMach) (hpre : m.mem.length ≤ 1099511627776 ∧ m.out.length ≤ 1099511627776) (ok_m : okMach m) : (evF E_step_StepNoTimer 60 24 (encArgs [.mach] (m, ()))).ends fun out_ => decO [.mach, .trap] out_ = some (K.plain m) := by
  rw [t_step_StepNoTimer, Tree.ends_holds]
  have hmay := fun h => cur_may (m := m) h
  have hz := fun h => cur_zero (m := m) h
  simp only [Tree.holds_loop, Tree.holds_fork, Tree.holds_next, if_true, Tree.holds_cond, Tree.holds_letv, Tree.holds_leaf, Tree.holds_fail, decO, decA, decTup, decMach, decCore, decTrap, decInstr, decPart, decGuest, decConf, decEvent, decVcpu, decStep, bytesS, boolS, eventsS, intsS, guestsS, vcpusS, rowS, castL, Option.bind_some, Option.map_some, Option.some.injEq, Nat.beq_refl, beq_self_eq_true, Bool.and_self, cond_true, cond_false, eq_self, beq_iff_eq, beq_eq_false_iff_ne, bne_iff_ne, bne_eq_false_iff_eq, ne_eq, decide_eq_true_eq, decide_eq_false_iff_not, ble_true, ble_false, inRange_iff, inRange_false]
  unfold K.plain
  repeat' (first | refine drop_ok ?_ | intro _ | with_reducible apply And.intro)
  · rename_i h; rw [if_pos h]
  · rename_i h c; rw [if_neg (by rw [h]; decide), if_pos c]
  · rename_i h c p _; rw [if_neg (by rw [h]; decide), if_neg (by simp [c]), if_pos p, hz c]
  · omega
  · rename_i h c p _; rw [if_neg (by rw [h]; decide), if_neg (by simp [c]), if_neg (by rw [p]; decide)]
  · rename_i h c p q
    have hm := (hmay c).op
    apply q
    refine ⟨hm.1, ?_, hpre.1⟩
    have : ¬ (21 ≤ (K.cur m).1.op ∧ (K.cur m).1.op ≤ 25) := fun z => by rw [privd_range.2 z] at p; cases p
    omega
  
theorem c_step_StepNoTimer : SpecOk EB_0_1_2 24 S_step_StepNoTimer := spec_sig ok_step_StepNoTimer (n := 60) fun ⟨m, ⟨⟩⟩ h hok => a_step_StepNoTimer m (of_decide_eq_true h) (ok_mach (okSL_head hok))
end

/-! step_Step -/

def S_step_Step : Spec := sig [.mach] [.mach, .trap] (fun (m, _) => K.step m) (pre := fun (m, _) => decide (m.mem.length ≤ 1099511627776 ∧ m.out.length ≤ 1099511627776))
noncomputable def E_step_Step : Env := EB_0_1_2.adds [(63, S_fetch_TimerPending), (41, S_step_end), (24, S_step_StepNoTimer)]

theorem ok_step_Step : EnvOk E_step_Step := okEB_0_1_2.adds (l := _) ⟨(up_to_0_1_2 c_fetch_TimerPending), (up_to_0_1_2 c_step_end), c_step_StepNoTimer, trivial⟩

theorem t_step_Step (m : PMach) : evF E_step_Step 60 51 (encArgs [.mach] (m, ())) = 
 bif m.halted then
 (bif (decide (And ((List.length m.mem) ≤ 1099511627776) ((List.length m.out) ≤ 1099511627776))) then
 (Tree.letv (okO [AT.mach, AT.trap]) (K.plain m) fun x0 =>
 (Tree.leaf (SV.tup [(SV.agg [(SV.arr IntKind.u32 16 x0.fst.core.regs), (SV.v (Value.int IntKind.u32 x0.fst.core.pc)), (SV.arr IntKind.u32 12 x0.fst.core.csr), (SV.rd ETy.u8 x0.fst.mem), (SV.v (Value.int IntKind.u64 x0.fst.time)), (SV.rd ETy.u8 x0.fst.out), (SV.v (Value.bool x0.fst.halted))]), (SV.agg [(SV.v (Value.int IntKind.i64 x0.snd.cause)), (SV.v (Value.int IntKind.u32 x0.snd.tval))])])))
 else
 (Tree.fail))
 else
 (Tree.letv (okO [AT.b]) (K.due m) fun x0 =>
 (bif x0 then
 (Tree.letv (okO [AT.mach, AT.trap]) (K.endS m (PTrap.mk (6 : Int) (0 : Int))) fun x1 =>
 (Tree.leaf (SV.tup [(SV.agg [(SV.arr IntKind.u32 16 x1.fst.core.regs), (SV.v (Value.int IntKind.u32 x1.fst.core.pc)), (SV.arr IntKind.u32 12 x1.fst.core.csr), (SV.rd ETy.u8 x1.fst.mem), (SV.v (Value.int IntKind.u64 x1.fst.time)), (SV.rd ETy.u8 x1.fst.out), (SV.v (Value.bool x1.fst.halted))]), (SV.agg [(SV.v (Value.int IntKind.i64 x1.snd.cause)), (SV.v (Value.int IntKind.u32 x1.snd.tval))])])))
 else
 (bif (decide (And ((List.length m.mem) ≤ 1099511627776) ((List.length m.out) ≤ 1099511627776))) then
 (Tree.letv (okO [AT.mach, AT.trap]) (K.plain m) fun x1 =>
 (Tree.leaf (SV.tup [(SV.agg [(SV.arr IntKind.u32 16 x1.fst.core.regs), (SV.v (Value.int IntKind.u32 x1.fst.core.pc)), (SV.arr IntKind.u32 12 x1.fst.core.csr), (SV.rd ETy.u8 x1.fst.mem), (SV.v (Value.int IntKind.u64 x1.fst.time)), (SV.rd ETy.u8 x1.fst.out), (SV.v (Value.bool x1.fst.halted))]), (SV.agg [(SV.v (Value.int IntKind.i64 x1.snd.cause)), (SV.v (Value.int IntKind.u32 x1.snd.tval))])])))
 else
 (Tree.fail)))) := by kernel_rfl
section
attribute [local irreducible] evF evFL evFLs evFM
theorem a_step_Step (m : PMach) (hpre : m.mem.length ≤ 1099511627776 ∧ m.out.length ≤ 1099511627776) (ok_m : okMach m) : (evF E_step_Step 60 51 (encArgs [.mach] (m, ()))).ends fun out_ => decO [.mach, .trap] out_ = some (K.step m) := by
  rw [t_step_Step, Tree.ends_holds]
  simp only [Tree.holds_loop, Tree.holds_fork, Tree.holds_next, if_true, Tree.holds_cond, Tree.holds_letv, Tree.holds_leaf, Tree.holds_fail, decO, decA, decTup, decMach, decCore, decTrap, decInstr, decPart, decGuest, decConf, decEvent, decVcpu, decStep, bytesS, boolS, eventsS, intsS, guestsS, vcpusS, rowS, castL, Option.bind_some, Option.map_some, Option.some.injEq, Nat.beq_refl, beq_self_eq_true, Bool.and_self, cond_true, cond_false, eq_self, beq_iff_eq, beq_eq_false_iff_ne, bne_iff_ne, bne_eq_false_iff_eq, ne_eq, decide_eq_true_eq, decide_eq_false_iff_not, ble_true, ble_false, inRange_iff, inRange_false]
  unfold K.step
  repeat' (first | refine drop_ok ?_ | intro _ | with_reducible apply And.intro)
  all_goals first | (simp_all; done) | omega
  
theorem c_step_Step : SpecOk EB_0_1_2 51 S_step_Step := spec_sig ok_step_Step (n := 60) fun ⟨m, ⟨⟩⟩ h hok => a_step_Step m (of_decide_eq_true h) (ok_mach (okSL_head hok))
end

/-! run_Run -/
/-- the open record, as a loop in the function that is ranged over keeps it -/
def recAt (s : St) (keys : List Nat) : Blk := match s.T 0 with
  | .yld kl => match keysD s [kl, kl - 1] keys with
    | some ks => match (s.M kl).bind (renB (ks ++ [kl, kl - 1])) with
      | some b => b
      | none => .dfr
    | none => .dfr
  | _ => .dfr
@[reducible] def L_run (m : PMach) (n : Int) (R : Blk) : LoopSpec where
  σ := Nat
  slots := [0, 1, 2, 4, 5]
  keys := [1, 2, 4, 1002, 1004, 1006]
  vals := fun i => [.yld 6, .loc 0 0 0 1, .loc 1 0 0 1, .loc 2 0 0 1, .v (.int .i64 (i : Int))]
  blks := fun i => [.cells (machC m) 30, .cells [.v (.int .i64 n)] 3, .cells (machC (K.runS m i).1 ++ trapC (K.runS m i).2) 67, .cells (machC (K.runS m (i - 1)).1) 30, .cells [.arr .u32 16 [0, 0, 0, 0, 0, 0, 0, 0, 0, 0, 0, 0, 0, 0, 0, 0], .v (.int .u32 0), .arr .u32 12 [0, 0, 0, 0, 0, 0, 0, 0, 0, 0, 0, 0], .v (.slice none 0 0), .v (.int .u64 0), .v (.slice none 0 0), .b false] 30, .cells [.v (.int .i64 ((i - 1 : Nat) : Int))] 3, R, .dfr]
  inv := fun i => i ≤ 100 ∧ K.runEnd m n (200 - i) i = K.runN m n ∧ (K.runS m i).1.mem.length = m.mem.length ∧ (K.runS m i).1.out.length ≤ m.out.length + i
  mu := fun i => 200 - i
def S_run_Run : Spec := sig [.mach, .i .i64] [.mach, .i .i64] (fun (m, n, _) => K.run m n) (pre := fun (m, n, _) => decide (n ≤ 100 ∧ m.mem.length ≤ 1073741824 ∧ m.out.length ≤ 1073741824))
noncomputable def E_run_Run : Env := EB_0_1_2.adds [(51, S_step_Step)]

theorem ok_run_Run : EnvOk E_run_Run := okEB_0_1_2.adds (l := _) ⟨c_step_Step, trivial⟩

theorem t_run_Run (m : PMach) (n : Int) : evFM E_run_Run (fun b => if b = 0 then some (fun s => L_run m n (recAt s [1, 2, 4, 1002, 1004, 1006])) else none) [] 60 9 (encArgs [.mach, .i .i64] (m, n, ())) = 
 Tree.loop 0 (L_run m n (Blk.lp [(SV.agg [(SV.arr IntKind.u32 16 m.core.regs), (SV.v (Value.int IntKind.u32 m.core.pc)), (SV.arr IntKind.u32 12 m.core.csr), (SV.rd ETy.u8 m.mem), (SV.v (Value.int IntKind.u64 m.time)), (SV.rd ETy.u8 m.out), (SV.v (Value.bool m.halted))]), (SV.v (Value.int IntKind.i64 n)), (SV.loc 3 0 0 1), SV.undef, (SV.loc 4 0 0 1), (SV.v (Value.int IntKind.i64 (0 : Int))), (SV.loc 5 0 0 1), SV.undef, SV.undef, (SV.agg [(SV.arr IntKind.u32 16 m.core.regs), (SV.v (Value.int IntKind.u32 m.core.pc)), (SV.arr IntKind.u32 12 m.core.csr), (SV.rd ETy.u8 m.mem), (SV.v (Value.int IntKind.u64 m.time)), (SV.rd ETy.u8 m.out), (SV.v (Value.bool m.halted))]), (SV.v (Value.int IntKind.i64 n)), SV.junk, SV.undef, SV.undef, SV.undef, SV.undef, SV.undef, SV.undef, SV.undef] #[12, 13] (Code.seq (Code.region 3 #[(Oper.mk (Option.some 7) (Op.assign (Operand.tmp 12)) 3 "run.go:33" #[] Option.none)] false) (Code.region 4 #[(Oper.mk (Option.some 8) (Op.alloc 67) 0 "run.go:33" #[] Option.none), (Oper.mk Option.none (Op.store 67 (Operand.tmp 8) (Operand.tmp 13)) 0 "run.go:33" #[(Edge.mk 0 Ground.data), (Edge.mk 0 Ground.phase)] Option.none)] false)) (Code.block 1 (Code.region 5 #[(Oper.mk (Option.some 14) (Op.fieldAddr 67 (Operand.tmp 8) 0) 0 "run.go:34" #[] Option.none), (Oper.mk (Option.some 15) (Op.load 30 (Operand.tmp 14)) 30 "run.go:34" #[(Edge.mk 0 Ground.data)] Option.none), (Oper.mk (Option.some 16) (Op.move (Operand.tmp 7)) 3 "run.go:34" #[(Edge.mk 3 (Ground.gcOnly Departure.lateStores))] Option.none), (Oper.mk Option.none (Op.store 30 (Operand.tmp 2) (Operand.tmp 15)) 0 "run.go:34" #[(Edge.mk 1 Ground.data), (Edge.mk 0 Ground.phase), (Edge.mk 1 Ground.phase), (Edge.mk 2 (Ground.textOnly Departure.lateStores))] Option.none), (Oper.mk Option.none (Op.store 3 (Operand.tmp 6) (Operand.tmp 16)) 0 "run.go:34" #[(Edge.mk 2 Ground.data), (Edge.mk 3 Ground.chain), (Edge.mk 0 Ground.phase), (Edge.mk 1 Ground.phase), (Edge.mk 2 Ground.phase), (Edge.mk 3 Ground.phase)] Option.none)] false)) LoopState.ready Option.none)) [(SV.yld 6), (SV.loc 0 0 0 1), (SV.loc 1 0 0 1), (SV.loc 2 0 0 1), (SV.v (Value.int IntKind.i64 (0 : Int)))] [(Blk.cells [(SV.arr IntKind.u32 16 m.core.regs), (SV.v (Value.int IntKind.u32 m.core.pc)), (SV.arr IntKind.u32 12 m.core.csr), (SV.rd ETy.u8 m.mem), (SV.v (Value.int IntKind.u64 m.time)), (SV.rd ETy.u8 m.out), (SV.v (Value.bool m.halted))] 30), (Blk.cells [(SV.v (Value.int IntKind.i64 n))] 3), (Blk.cells [(SV.arr IntKind.u32 16 m.core.regs), (SV.v (Value.int IntKind.u32 m.core.pc)), (SV.arr IntKind.u32 12 m.core.csr), (SV.rd ETy.u8 m.mem), (SV.v (Value.int IntKind.u64 m.time)), (SV.rd ETy.u8 m.out), (SV.v (Value.bool m.halted)), (SV.v (Value.int IntKind.i64 (0 : Int))), (SV.v (Value.int IntKind.u32 (0 : Int)))] 67), (Blk.cells [(SV.arr IntKind.u32 16 m.core.regs), (SV.v (Value.int IntKind.u32 m.core.pc)), (SV.arr IntKind.u32 12 m.core.csr), (SV.rd ETy.u8 m.mem), (SV.v (Value.int IntKind.u64 m.time)), (SV.rd ETy.u8 m.out), (SV.v (Value.bool m.halted))] 30), (Blk.cells [(SV.arr IntKind.u32 16 [(0 : Int), (0 : Int), (0 : Int), (0 : Int), (0 : Int), (0 : Int), (0 : Int), (0 : Int), (0 : Int), (0 : Int), (0 : Int), (0 : Int), (0 : Int), (0 : Int), (0 : Int), (0 : Int)]), (SV.v (Value.int IntKind.u32 (0 : Int))), (SV.arr IntKind.u32 12 [(0 : Int), (0 : Int), (0 : Int), (0 : Int), (0 : Int), (0 : Int), (0 : Int), (0 : Int), (0 : Int), (0 : Int), (0 : Int), (0 : Int)]), (SV.v (Value.slice Option.none 0 0)), (SV.v (Value.int IntKind.u64 (0 : Int))), (SV.v (Value.slice Option.none 0 0)), (SV.b false)] 30), (Blk.cells [(SV.v (Value.int IntKind.i64 (0 : Int)))] 3), (Blk.lp [(SV.agg [(SV.arr IntKind.u32 16 m.core.regs), (SV.v (Value.int IntKind.u32 m.core.pc)), (SV.arr IntKind.u32 12 m.core.csr), (SV.rd ETy.u8 m.mem), (SV.v (Value.int IntKind.u64 m.time)), (SV.rd ETy.u8 m.out), (SV.v (Value.bool m.halted))]), (SV.v (Value.int IntKind.i64 n)), (SV.loc 3 0 0 1), SV.undef, (SV.loc 4 0 0 1), (SV.v (Value.int IntKind.i64 (0 : Int))), (SV.loc 5 0 0 1), SV.undef, SV.undef, (SV.agg [(SV.arr IntKind.u32 16 m.core.regs), (SV.v (Value.int IntKind.u32 m.core.pc)), (SV.arr IntKind.u32 12 m.core.csr), (SV.rd ETy.u8 m.mem), (SV.v (Value.int IntKind.u64 m.time)), (SV.rd ETy.u8 m.out), (SV.v (Value.bool m.halted))]), (SV.v (Value.int IntKind.i64 n)), SV.junk, SV.undef, SV.undef, SV.undef, SV.undef, SV.undef, SV.undef, SV.undef] #[12, 13] (Code.seq (Code.region 3 #[(Oper.mk (Option.some 7) (Op.assign (Operand.tmp 12)) 3 "run.go:33" #[] Option.none)] false) (Code.region 4 #[(Oper.mk (Option.some 8) (Op.alloc 67) 0 "run.go:33" #[] Option.none), (Oper.mk Option.none (Op.store 67 (Operand.tmp 8) (Operand.tmp 13)) 0 "run.go:33" #[(Edge.mk 0 Ground.data), (Edge.mk 0 Ground.phase)] Option.none)] false)) (Code.block 1 (Code.region 5 #[(Oper.mk (Option.some 14) (Op.fieldAddr 67 (Operand.tmp 8) 0) 0 "run.go:34" #[] Option.none), (Oper.mk (Option.some 15) (Op.load 30 (Operand.tmp 14)) 30 "run.go:34" #[(Edge.mk 0 Ground.data)] Option.none), (Oper.mk (Option.some 16) (Op.move (Operand.tmp 7)) 3 "run.go:34" #[(Edge.mk 3 (Ground.gcOnly Departure.lateStores))] Option.none), (Oper.mk Option.none (Op.store 30 (Operand.tmp 2) (Operand.tmp 15)) 0 "run.go:34" #[(Edge.mk 1 Ground.data), (Edge.mk 0 Ground.phase), (Edge.mk 1 Ground.phase), (Edge.mk 2 (Ground.textOnly Departure.lateStores))] Option.none), (Oper.mk Option.none (Op.store 3 (Operand.tmp 6) (Operand.tmp 16)) 0 "run.go:34" #[(Edge.mk 2 Ground.data), (Edge.mk 3 Ground.chain), (Edge.mk 0 Ground.phase), (Edge.mk 1 Ground.phase), (Edge.mk 2 Ground.phase), (Edge.mk 3 Ground.phase)] Option.none)] false)) LoopState.ready Option.none), Blk.dfr] fun (x0 : Nat) =>
 (bif (decide ((Int.ofNat x0) ≥ n)) then
 (Tree.leaf (SV.tup [(SV.agg [(SV.arr IntKind.u32 16 (K.runS m x0).fst.core.regs), (SV.v (Value.int IntKind.u32 (K.runS m x0).fst.core.pc)), (SV.arr IntKind.u32 12 (K.runS m x0).fst.core.csr), (SV.rd ETy.u8 (K.runS m x0).fst.mem), (SV.v (Value.int IntKind.u64 (K.runS m x0).fst.time)), (SV.rd ETy.u8 (K.runS m x0).fst.out), (SV.v (Value.bool (K.runS m x0).fst.halted))]), (SV.v (Value.int IntKind.i64 (Int.ofNat x0)))]))
 else
 (bif (K.runS m x0).fst.halted then
 (Tree.leaf (SV.tup [(SV.agg [(SV.arr IntKind.u32 16 (K.runS m x0).fst.core.regs), (SV.v (Value.int IntKind.u32 (K.runS m x0).fst.core.pc)), (SV.arr IntKind.u32 12 (K.runS m x0).fst.core.csr), (SV.rd ETy.u8 (K.runS m x0).fst.mem), (SV.v (Value.int IntKind.u64 (K.runS m x0).fst.time)), (SV.rd ETy.u8 (K.runS m x0).fst.out), (SV.v (Value.bool (K.runS m x0).fst.halted))]), (SV.v (Value.int IntKind.i64 (Int.ofNat x0)))]))
 else
 (bif (decide (And ((List.length (K.runS m x0).fst.mem) ≤ 1099511627776) ((List.length (K.runS m x0).fst.out) ≤ 1099511627776))) then
 (Tree.letv (okO [AT.mach, AT.trap]) (K.step (K.runS m x0).fst) fun x1 =>
 ((Tree.next 0 [(SV.yld 6), (SV.loc 0 0 0 1), (SV.loc 1 0 0 1), (SV.loc 2 0 0 1), (SV.v (Value.int IntKind.i64 (IntKind.wrap IntKind.i64 ((Int.ofNat x0) + (1 : Int)))))] [(Blk.cells [(SV.arr IntKind.u32 16 m.core.regs), (SV.v (Value.int IntKind.u32 m.core.pc)), (SV.arr IntKind.u32 12 m.core.csr), (SV.rd ETy.u8 m.mem), (SV.v (Value.int IntKind.u64 m.time)), (SV.rd ETy.u8 m.out), (SV.v (Value.bool m.halted))] 30), (Blk.cells [(SV.v (Value.int IntKind.i64 n))] 3), (Blk.cells [(SV.arr IntKind.u32 16 x1.fst.core.regs), (SV.v (Value.int IntKind.u32 x1.fst.core.pc)), (SV.arr IntKind.u32 12 x1.fst.core.csr), (SV.rd ETy.u8 x1.fst.mem), (SV.v (Value.int IntKind.u64 x1.fst.time)), (SV.rd ETy.u8 x1.fst.out), (SV.v (Value.bool x1.fst.halted)), (SV.v (Value.int IntKind.i64 x1.snd.cause)), (SV.v (Value.int IntKind.u32 x1.snd.tval))] 67), (Blk.cells [(SV.arr IntKind.u32 16 (K.runS m x0).fst.core.regs), (SV.v (Value.int IntKind.u32 (K.runS m x0).fst.core.pc)), (SV.arr IntKind.u32 12 (K.runS m x0).fst.core.csr), (SV.rd ETy.u8 (K.runS m x0).fst.mem), (SV.v (Value.int IntKind.u64 (K.runS m x0).fst.time)), (SV.rd ETy.u8 (K.runS m x0).fst.out), (SV.v (Value.bool (K.runS m x0).fst.halted))] 30), (Blk.cells [(SV.arr IntKind.u32 16 [(0 : Int), (0 : Int), (0 : Int), (0 : Int), (0 : Int), (0 : Int), (0 : Int), (0 : Int), (0 : Int), (0 : Int), (0 : Int), (0 : Int), (0 : Int), (0 : Int), (0 : Int), (0 : Int)]), (SV.v (Value.int IntKind.u32 (0 : Int))), (SV.arr IntKind.u32 12 [(0 : Int), (0 : Int), (0 : Int), (0 : Int), (0 : Int), (0 : Int), (0 : Int), (0 : Int), (0 : Int), (0 : Int), (0 : Int), (0 : Int)]), (SV.v (Value.slice Option.none 0 0)), (SV.v (Value.int IntKind.u64 (0 : Int))), (SV.v (Value.slice Option.none 0 0)), (SV.b false)] 30), (Blk.cells [(SV.v (Value.int IntKind.i64 (Int.ofNat x0)))] 3), (Blk.lp [(SV.agg [(SV.arr IntKind.u32 16 m.core.regs), (SV.v (Value.int IntKind.u32 m.core.pc)), (SV.arr IntKind.u32 12 m.core.csr), (SV.rd ETy.u8 m.mem), (SV.v (Value.int IntKind.u64 m.time)), (SV.rd ETy.u8 m.out), (SV.v (Value.bool m.halted))]), (SV.v (Value.int IntKind.i64 n)), (SV.loc 3 0 0 1), SV.undef, (SV.loc 4 0 0 1), (SV.v (Value.int IntKind.i64 (0 : Int))), (SV.loc 5 0 0 1), SV.undef, SV.undef, (SV.agg [(SV.arr IntKind.u32 16 m.core.regs), (SV.v (Value.int IntKind.u32 m.core.pc)), (SV.arr IntKind.u32 12 m.core.csr), (SV.rd ETy.u8 m.mem), (SV.v (Value.int IntKind.u64 m.time)), (SV.rd ETy.u8 m.out), (SV.v (Value.bool m.halted))]), (SV.v (Value.int IntKind.i64 n)), SV.junk, SV.undef, SV.undef, SV.undef, SV.undef, SV.undef, SV.undef, SV.undef] #[12, 13] (Code.seq (Code.region 3 #[(Oper.mk (Option.some 7) (Op.assign (Operand.tmp 12)) 3 "run.go:33" #[] Option.none)] false) (Code.region 4 #[(Oper.mk (Option.some 8) (Op.alloc 67) 0 "run.go:33" #[] Option.none), (Oper.mk Option.none (Op.store 67 (Operand.tmp 8) (Operand.tmp 13)) 0 "run.go:33" #[(Edge.mk 0 Ground.data), (Edge.mk 0 Ground.phase)] Option.none)] false)) (Code.block 1 (Code.region 5 #[(Oper.mk (Option.some 14) (Op.fieldAddr 67 (Operand.tmp 8) 0) 0 "run.go:34" #[] Option.none), (Oper.mk (Option.some 15) (Op.load 30 (Operand.tmp 14)) 30 "run.go:34" #[(Edge.mk 0 Ground.data)] Option.none), (Oper.mk (Option.some 16) (Op.move (Operand.tmp 7)) 3 "run.go:34" #[(Edge.mk 3 (Ground.gcOnly Departure.lateStores))] Option.none), (Oper.mk Option.none (Op.store 30 (Operand.tmp 2) (Operand.tmp 15)) 0 "run.go:34" #[(Edge.mk 1 Ground.data), (Edge.mk 0 Ground.phase), (Edge.mk 1 Ground.phase), (Edge.mk 2 (Ground.textOnly Departure.lateStores))] Option.none), (Oper.mk Option.none (Op.store 3 (Operand.tmp 6) (Operand.tmp 16)) 0 "run.go:34" #[(Edge.mk 2 Ground.data), (Edge.mk 3 Ground.chain), (Edge.mk 0 Ground.phase), (Edge.mk 1 Ground.phase), (Edge.mk 2 Ground.phase), (Edge.mk 3 Ground.phase)] Option.none)] false)) LoopState.ready Option.none), Blk.dfr])))
 else
 (Tree.fail)))) := by kernel_rfl
section
attribute [local irreducible] evF evFL evFLs evFM
theorem a_run_Run (m : PMach) (n : Int) (hpre : n ≤ 100 ∧ m.mem.length ≤ 1073741824 ∧ m.out.length ≤ 1073741824) (ok_m : okMach m) (ok_n : okI .i64 n) : (evFM E_run_Run (fun b => if b = 0 then some (fun s => L_run m n (recAt s [1, 2, 4, 1002, 1004, 1006])) else none) [] 60 9 (encArgs [.mach, .i .i64] (m, n, ()))).ends fun out_ => decO [.mach, .i .i64] out_ = some (K.run m n) := by
  rw [t_run_Run, Tree.ends_holds]
  obtain ⟨hn, hm, ho⟩ := hpre
  rw [Tree.holds_loop]
  refine ⟨⟨(0 : Nat), rfl, rfl, ⟨Nat.zero_le _, rfl, rfl, Nat.le_refl _⟩, trivial⟩, fun (i : Nat) hx => ?_⟩
  obtain ⟨i1, i2, i3, i4⟩ := hx
  have i1 : i ≤ 100 := i1
  have i2 : K.runEnd m n (200 - i) i = K.runN m n := i2
  have i3 : (K.runS m i).1.mem.length = m.mem.length := i3
  have i4 : (K.runS m i).1.out.length ≤ m.out.length + i := i4
  have w1 : IntKind.i64.wrap ((i : Int) + 1) = ((i + 1 : Nat) : Int) := by rw [wrapI64 (by omega) (by omega)]; rfl
  rw [show 200 - i = (199 - i) + 1 by omega] at i2
  have i2 : (if (i : Int) ≥ n ∨ (K.runS m i).1.halted = true then i else K.runEnd m n (199 - i) (i + 1)) = K.runN m n := i2
  have sl := step_lens (K.runS m i).1
  simp only [Tree.holds_loop, Tree.holds_fork, Tree.holds_next, if_true, Tree.holds_cond, Tree.holds_letv, Tree.holds_leaf, Tree.holds_fail, decO, decA, decTup, decMach, decCore, decTrap, decInstr, decPart, decGuest, decConf, decEvent, decVcpu, decStep, bytesS, boolS, eventsS, intsS, guestsS, vcpusS, rowS, castL, Option.bind_some, Option.map_some, Option.some.injEq, Nat.beq_refl, beq_self_eq_true, Bool.and_self, cond_true, cond_false, eq_self, beq_iff_eq, beq_eq_false_iff_ne, bne_iff_ne, bne_eq_false_iff_eq, ne_eq, decide_eq_true_eq, decide_eq_false_iff_not, ble_true, ble_false, inRange_iff, inRange_false, Int.ofNat_eq_natCast, Int.toNat_natCast, w1]
  by_cases hx : (i : Int) ≥ n ∨ (K.runS m i).1.halted = true
  · rw [if_pos hx] at i2
    have hr : K.run m n = ((K.runS m i).1, (i : Int)) := by unfold K.run; rw [← i2]
    rw [hr]
    repeat' (first | refine drop_ok ?_ | intro _ | with_reducible apply And.intro)
    all_goals first
      | trivial
      | rfl
      | (exfalso; omega)
      | (exfalso; rcases hx with q | q
         · exact absurd q (by assumption)
         · simp_all)
      | trace_state
  · rw [if_neg hx] at i2
    have hlt : (i : Int) < n := by
      have := fun q => hx (.inl q)
      omega
    have hh : (K.runS m i).1.halted = false := by
      cases hq : (K.runS m i).1.halted with
      | false => rfl
      | true => exact absurd (.inr hq) hx
    refine ⟨fun q => absurd q (by omega), fun _ => ⟨(fun q => by rw [hh] at q; cases q), fun _ => ⟨fun _ => fun _ => ?_, fun q => ?_⟩⟩⟩
    · refine ⟨i + 1, rfl, rfl, ⟨by show i + 1 ≤ 100; omega, ?_, ?_, ?_⟩, by show 200 - (i + 1) < 200 - i; omega⟩
      · show K.runEnd m n (200 - (i + 1)) (i + 1) = _
        rw [show 200 - (i + 1) = 199 - i by omega]; exact i2
      · show (K.step (K.runS m i).1).1.mem.length = _
        omega
      · show (K.step (K.runS m i).1).1.out.length ≤ _
        omega
    · exfalso; apply q; exact ⟨by omega, by omega⟩
  
theorem c_run_Run : SpecOk EB_0_1_2 9 S_run_Run := spec_sigM ok_run_Run (n := 60) (fun (m, n, _) => fun b => if b = 0 then some (fun s => L_run m n (recAt s [1, 2, 4, 1002, 1004, 1006])) else none) [] fun ⟨m, n, ⟨⟩⟩ h hok => a_run_Run m n (of_decide_eq_true h) (ok_mach (okSL_head hok)) (ok_int (okSL_head (okSL_tail hok)))
end

/-! run_RunUntil -/
def recAtU (s : St) (keys : List Nat) : Blk := match s.T 0 with
  | .yld kl => match keysD s [kl, kl - 1] keys with
    | some ks => match (s.M kl).bind (renB (ks ++ [kl, kl - 1])) with
      | some b => b
      | none => .dfr
    | none => .dfr
  | _ => .dfr
@[reducible] def L_runU (m : PMach) (n pc : Int) (R : Blk) : LoopSpec where
  σ := Nat
  slots := [0, 1, 2, 4, 5]
  keys := [1, 2, 4, 1003, 1005, 1006, 1007, 1008, 1009]
  vals := fun i => [.yld 9, .loc 0 0 0 1, .loc 1 0 0 1, .loc 2 0 0 1, .v (.int .i64 (i : Int))]
  blks := fun i => [.cells (machC m) 30, .cells [.v (.int .i64 n)] 3, .cells (machC (K.runS m i).1 ++ trapC (K.runS m i).2) 67, .cells (machC (K.runS m (i - 1)).1) 30, .cells [.v (.int .u32 pc)] 22, .cells [.arr .u32 16 [0, 0, 0, 0, 0, 0, 0, 0, 0, 0, 0, 0, 0, 0, 0, 0], .v (.int .u32 0), .arr .u32 12 [0, 0, 0, 0, 0, 0, 0, 0, 0, 0, 0, 0], .v (.slice none 0 0), .v (.int .u64 0), .v (.slice none 0 0), .b false] 30, .cells [.v (.int .i64 0)] 3, .cells [.b false] 4, .cells [.v (.int .i64 ((i - 1 : Nat) : Int))] 3, R, .dfr]
  inv := fun i => i ≤ 100 ∧ K.untilEnd m n pc (200 - i) i = K.untilN m n pc ∧ (K.runS m i).1.mem.length = m.mem.length ∧ (K.runS m i).1.out.length ≤ m.out.length + i
  mu := fun i => 200 - i
def S_run_RunUntil : Spec := sig [.mach, .i .i64, .i .u32] [.mach, .i .i64, .b] (fun (m, n, pc, _) => K.runUntil m n pc) (pre := fun (m, n, pc, _) => decide (n ≤ 100 ∧ m.mem.length ≤ 1073741824 ∧ m.out.length ≤ 1073741824))
noncomputable def E_run_RunUntil : Env := EB_0_1_2.adds [(51, S_step_Step)]

theorem ok_run_RunUntil : EnvOk E_run_RunUntil := okEB_0_1_2.adds (l := _) ⟨c_step_Step, trivial⟩

theorem t_run_RunUntil (m : PMach) (n : Int) (pc : Int) : evFM E_run_RunUntil (fun b => if b = 0 then some (fun s => L_runU m n pc (recAtU s [1, 2, 4, 1003, 1005, 1006, 1007, 1008, 1009])) else none) [] 60 11 (encArgs [.mach, .i .i64, .i .u32] (m, n, pc, ())) = 
 Tree.loop 0 (L_runU m n pc (Blk.lp [(SV.agg [(SV.arr IntKind.u32 16 m.core.regs), (SV.v (Value.int IntKind.u32 m.core.pc)), (SV.arr IntKind.u32 12 m.core.csr), (SV.rd ETy.u8 m.mem), (SV.v (Value.int IntKind.u64 m.time)), (SV.rd ETy.u8 m.out), (SV.v (Value.bool m.halted))]), (SV.v (Value.int IntKind.i64 n)), (SV.v (Value.int IntKind.u32 pc)), (SV.loc 3 0 0 1), SV.undef, (SV.loc 4 0 0 1), (SV.loc 5 0 0 1), (SV.loc 6 0 0 1), (SV.loc 7 0 0 1), (SV.loc 8 0 0 1), SV.undef, SV.undef, (SV.agg [(SV.arr IntKind.u32 16 m.core.regs), (SV.v (Value.int IntKind.u32 m.core.pc)), (SV.arr IntKind.u32 12 m.core.csr), (SV.rd ETy.u8 m.mem), (SV.v (Value.int IntKind.u64 m.time)), (SV.rd ETy.u8 m.out), (SV.v (Value.bool m.halted))]), (SV.v (Value.int IntKind.i64 n)), SV.junk, SV.undef, SV.undef, SV.undef, SV.undef, SV.undef, SV.undef, SV.undef, SV.undef, SV.undef, SV.undef, SV.undef, SV.undef, SV.undef, SV.undef] #[15, 16] (Code.seq (Code.region 3 #[(Oper.mk (Option.some 10) (Op.assign (Operand.tmp 15)) 3 "run.go:53" #[] Option.none)] false) (Code.region 4 #[(Oper.mk (Option.some 11) (Op.alloc 67) 0 "run.go:53" #[] Option.none), (Oper.mk Option.none (Op.store 67 (Operand.tmp 11) (Operand.tmp 16)) 0 "run.go:53" #[(Edge.mk 0 Ground.data), (Edge.mk 0 Ground.phase)] Option.none)] false)) (Code.block 1 (Code.seq (Code.region 5 #[(Oper.mk (Option.some 17) (Op.fieldAddr 67 (Operand.tmp 11) 0) 0 "run.go:54" #[] Option.none), (Oper.mk (Option.some 18) (Op.load 30 (Operand.tmp 17)) 30 "run.go:54" #[(Edge.mk 0 Ground.data)] Option.none), (Oper.mk (Option.some 19) (Op.move (Operand.tmp 10)) 3 "run.go:54" #[(Edge.mk 3 (Ground.gcOnly Departure.lateStores))] Option.none), (Oper.mk Option.none (Op.store 30 (Operand.tmp 3) (Operand.tmp 18)) 0 "run.go:54" #[(Edge.mk 1 Ground.data), (Edge.mk 0 Ground.phase), (Edge.mk 1 Ground.phase), (Edge.mk 2 (Ground.textOnly Departure.lateStores))] Option.none), (Oper.mk Option.none (Op.store 3 (Operand.tmp 9) (Operand.tmp 19)) 0 "run.go:54" #[(Edge.mk 2 Ground.data), (Edge.mk 3 Ground.chain), (Edge.mk 0 Ground.phase), (Edge.mk 1 Ground.phase), (Edge.mk 2 Ground.phase), (Edge.mk 3 Ground.phase)] Option.none)] false) (Code.seq (Code.region 6 #[(Oper.mk (Option.some 20) (Op.fieldAddr 30 (Operand.tmp 3) 0) 0 "run.go:55" #[] Option.none), (Oper.mk (Option.some 21) (Op.fieldAddr 26 (Operand.tmp 20) 1) 0 "run.go:55" #[(Edge.mk 0 Ground.data)] Option.none), (Oper.mk (Option.some 22) (Op.load 22 (Operand.tmp 21)) 22 "run.go:55" #[(Edge.mk 1 Ground.data)] Option.none), (Oper.mk (Option.some 23) (Op.load 22 (Operand.tmp 5)) 22 "run.go:55" #[] Option.none), (Oper.mk (Option.some 24) (Op.binOp BinOp.eql 22 (Operand.tmp 22) (Operand.tmp 23) 22) 4 "run.go:55" #[(Edge.mk 2 Ground.data), (Edge.mk 3 Ground.data)] Option.none)] false) (Code.cond (Operand.tmp 24) (Code.seq (Code.region 7 #[(Oper.mk (Option.some 25) (Op.load 30 (Operand.tmp 3)) 30 "run.go:56" #[] Option.none), (Oper.mk (Option.some 26) (Op.load 3 (Operand.tmp 9)) 3 "run.go:56" #[] Option.none), (Oper.mk Option.none (Op.store 30 (Operand.tmp 6) (Operand.tmp 25)) 0 "run.go:56" #[(Edge.mk 0 Ground.data), (Edge.mk 0 Ground.phase), (Edge.mk 1 (Ground.textOnly Departure.inlinedCapture))] Option.none), (Oper.mk Option.none (Op.store 3 (Operand.tmp 7) (Operand.tmp 26)) 0 "run.go:56" #[(Edge.mk 1 Ground.data), (Edge.mk 2 Ground.chain), (Edge.mk 0 Ground.phase), (Edge.mk 1 Ground.phase), (Edge.mk 2 Ground.phase)] Option.none), (Oper.mk Option.none (Op.store 4 (Operand.tmp 8) (Operand.const (Value.bool true))) 0 "run.go:56" #[(Edge.mk 3 Ground.chain), (Edge.mk 0 Ground.phase), (Edge.mk 1 Ground.phase), (Edge.mk 2 Ground.phase), (Edge.mk 3 Ground.phase)] Option.none)] true) Code.ret) Code.skip)))) LoopState.ready Option.none)) [(SV.yld 9), (SV.loc 0 0 0 1), (SV.loc 1 0 0 1), (SV.loc 2 0 0 1), (SV.v (Value.int IntKind.i64 (0 : Int)))] [(Blk.cells [(SV.arr IntKind.u32 16 m.core.regs), (SV.v (Value.int IntKind.u32 m.core.pc)), (SV.arr IntKind.u32 12 m.core.csr), (SV.rd ETy.u8 m.mem), (SV.v (Value.int IntKind.u64 m.time)), (SV.rd ETy.u8 m.out), (SV.v (Value.bool m.halted))] 30), (Blk.cells [(SV.v (Value.int IntKind.i64 n))] 3), (Blk.cells [(SV.arr IntKind.u32 16 m.core.regs), (SV.v (Value.int IntKind.u32 m.core.pc)), (SV.arr IntKind.u32 12 m.core.csr), (SV.rd ETy.u8 m.mem), (SV.v (Value.int IntKind.u64 m.time)), (SV.rd ETy.u8 m.out), (SV.v (Value.bool m.halted)), (SV.v (Value.int IntKind.i64 (0 : Int))), (SV.v (Value.int IntKind.u32 (0 : Int)))] 67), (Blk.cells [(SV.arr IntKind.u32 16 m.core.regs), (SV.v (Value.int IntKind.u32 m.core.pc)), (SV.arr IntKind.u32 12 m.core.csr), (SV.rd ETy.u8 m.mem), (SV.v (Value.int IntKind.u64 m.time)), (SV.rd ETy.u8 m.out), (SV.v (Value.bool m.halted))] 30), (Blk.cells [(SV.v (Value.int IntKind.u32 pc))] 22), (Blk.cells [(SV.arr IntKind.u32 16 [(0 : Int), (0 : Int), (0 : Int), (0 : Int), (0 : Int), (0 : Int), (0 : Int), (0 : Int), (0 : Int), (0 : Int), (0 : Int), (0 : Int), (0 : Int), (0 : Int), (0 : Int), (0 : Int)]), (SV.v (Value.int IntKind.u32 (0 : Int))), (SV.arr IntKind.u32 12 [(0 : Int), (0 : Int), (0 : Int), (0 : Int), (0 : Int), (0 : Int), (0 : Int), (0 : Int), (0 : Int), (0 : Int), (0 : Int), (0 : Int)]), (SV.v (Value.slice Option.none 0 0)), (SV.v (Value.int IntKind.u64 (0 : Int))), (SV.v (Value.slice Option.none 0 0)), (SV.b false)] 30), (Blk.cells [(SV.v (Value.int IntKind.i64 (0 : Int)))] 3), (Blk.cells [(SV.b false)] 4), (Blk.cells [(SV.v (Value.int IntKind.i64 (0 : Int)))] 3), (Blk.lp [(SV.agg [(SV.arr IntKind.u32 16 m.core.regs), (SV.v (Value.int IntKind.u32 m.core.pc)), (SV.arr IntKind.u32 12 m.core.csr), (SV.rd ETy.u8 m.mem), (SV.v (Value.int IntKind.u64 m.time)), (SV.rd ETy.u8 m.out), (SV.v (Value.bool m.halted))]), (SV.v (Value.int IntKind.i64 n)), (SV.v (Value.int IntKind.u32 pc)), (SV.loc 3 0 0 1), SV.undef, (SV.loc 4 0 0 1), (SV.loc 5 0 0 1), (SV.loc 6 0 0 1), (SV.loc 7 0 0 1), (SV.loc 8 0 0 1), SV.undef, SV.undef, (SV.agg [(SV.arr IntKind.u32 16 m.core.regs), (SV.v (Value.int IntKind.u32 m.core.pc)), (SV.arr IntKind.u32 12 m.core.csr), (SV.rd ETy.u8 m.mem), (SV.v (Value.int IntKind.u64 m.time)), (SV.rd ETy.u8 m.out), (SV.v (Value.bool m.halted))]), (SV.v (Value.int IntKind.i64 n)), SV.junk, SV.undef, SV.undef, SV.undef, SV.undef, SV.undef, SV.undef, SV.undef, SV.undef, SV.undef, SV.undef, SV.undef, SV.undef, SV.undef, SV.undef] #[15, 16] (Code.seq (Code.region 3 #[(Oper.mk (Option.some 10) (Op.assign (Operand.tmp 15)) 3 "run.go:53" #[] Option.none)] false) (Code.region 4 #[(Oper.mk (Option.some 11) (Op.alloc 67) 0 "run.go:53" #[] Option.none), (Oper.mk Option.none (Op.store 67 (Operand.tmp 11) (Operand.tmp 16)) 0 "run.go:53" #[(Edge.mk 0 Ground.data), (Edge.mk 0 Ground.phase)] Option.none)] false)) (Code.block 1 (Code.seq (Code.region 5 #[(Oper.mk (Option.some 17) (Op.fieldAddr 67 (Operand.tmp 11) 0) 0 "run.go:54" #[] Option.none), (Oper.mk (Option.some 18) (Op.load 30 (Operand.tmp 17)) 30 "run.go:54" #[(Edge.mk 0 Ground.data)] Option.none), (Oper.mk (Option.some 19) (Op.move (Operand.tmp 10)) 3 "run.go:54" #[(Edge.mk 3 (Ground.gcOnly Departure.lateStores))] Option.none), (Oper.mk Option.none (Op.store 30 (Operand.tmp 3) (Operand.tmp 18)) 0 "run.go:54" #[(Edge.mk 1 Ground.data), (Edge.mk 0 Ground.phase), (Edge.mk 1 Ground.phase), (Edge.mk 2 (Ground.textOnly Departure.lateStores))] Option.none), (Oper.mk Option.none (Op.store 3 (Operand.tmp 9) (Operand.tmp 19)) 0 "run.go:54" #[(Edge.mk 2 Ground.data), (Edge.mk 3 Ground.chain), (Edge.mk 0 Ground.phase), (Edge.mk 1 Ground.phase), (Edge.mk 2 Ground.phase), (Edge.mk 3 Ground.phase)] Option.none)] false) (Code.seq (Code.region 6 #[(Oper.mk (Option.some 20) (Op.fieldAddr 30 (Operand.tmp 3) 0) 0 "run.go:55" #[] Option.none), (Oper.mk (Option.some 21) (Op.fieldAddr 26 (Operand.tmp 20) 1) 0 "run.go:55" #[(Edge.mk 0 Ground.data)] Option.none), (Oper.mk (Option.some 22) (Op.load 22 (Operand.tmp 21)) 22 "run.go:55" #[(Edge.mk 1 Ground.data)] Option.none), (Oper.mk (Option.some 23) (Op.load 22 (Operand.tmp 5)) 22 "run.go:55" #[] Option.none), (Oper.mk (Option.some 24) (Op.binOp BinOp.eql 22 (Operand.tmp 22) (Operand.tmp 23) 22) 4 "run.go:55" #[(Edge.mk 2 Ground.data), (Edge.mk 3 Ground.data)] Option.none)] false) (Code.cond (Operand.tmp 24) (Code.seq (Code.region 7 #[(Oper.mk (Option.some 25) (Op.load 30 (Operand.tmp 3)) 30 "run.go:56" #[] Option.none), (Oper.mk (Option.some 26) (Op.load 3 (Operand.tmp 9)) 3 "run.go:56" #[] Option.none), (Oper.mk Option.none (Op.store 30 (Operand.tmp 6) (Operand.tmp 25)) 0 "run.go:56" #[(Edge.mk 0 Ground.data), (Edge.mk 0 Ground.phase), (Edge.mk 1 (Ground.textOnly Departure.inlinedCapture))] Option.none), (Oper.mk Option.none (Op.store 3 (Operand.tmp 7) (Operand.tmp 26)) 0 "run.go:56" #[(Edge.mk 1 Ground.data), (Edge.mk 2 Ground.chain), (Edge.mk 0 Ground.phase), (Edge.mk 1 Ground.phase), (Edge.mk 2 Ground.phase)] Option.none), (Oper.mk Option.none (Op.store 4 (Operand.tmp 8) (Operand.const (Value.bool true))) 0 "run.go:56" #[(Edge.mk 3 Ground.chain), (Edge.mk 0 Ground.phase), (Edge.mk 1 Ground.phase), (Edge.mk 2 Ground.phase), (Edge.mk 3 Ground.phase)] Option.none)] true) Code.ret) Code.skip)))) LoopState.ready Option.none), Blk.dfr] fun (x0 : Nat) =>
 (bif (BEq.beq (K.runS m x0).fst.core.pc pc) then
 (Tree.leaf (SV.tup [(SV.agg [(SV.arr IntKind.u32 16 (K.runS m x0).fst.core.regs), (SV.v (Value.int IntKind.u32 (K.runS m x0).fst.core.pc)), (SV.arr IntKind.u32 12 (K.runS m x0).fst.core.csr), (SV.rd ETy.u8 (K.runS m x0).fst.mem), (SV.v (Value.int IntKind.u64 (K.runS m x0).fst.time)), (SV.rd ETy.u8 (K.runS m x0).fst.out), (SV.v (Value.bool (K.runS m x0).fst.halted))]), (SV.v (Value.int IntKind.i64 (Int.ofNat x0))), (SV.b true)]))
 else
 (bif (decide ((Int.ofNat x0) ≥ n)) then
 (Tree.leaf (SV.tup [(SV.agg [(SV.arr IntKind.u32 16 (K.runS m x0).fst.core.regs), (SV.v (Value.int IntKind.u32 (K.runS m x0).fst.core.pc)), (SV.arr IntKind.u32 12 (K.runS m x0).fst.core.csr), (SV.rd ETy.u8 (K.runS m x0).fst.mem), (SV.v (Value.int IntKind.u64 (K.runS m x0).fst.time)), (SV.rd ETy.u8 (K.runS m x0).fst.out), (SV.v (Value.bool (K.runS m x0).fst.halted))]), (SV.v (Value.int IntKind.i64 (Int.ofNat x0))), (SV.b false)]))
 else
 (bif (K.runS m x0).fst.halted then
 (Tree.leaf (SV.tup [(SV.agg [(SV.arr IntKind.u32 16 (K.runS m x0).fst.core.regs), (SV.v (Value.int IntKind.u32 (K.runS m x0).fst.core.pc)), (SV.arr IntKind.u32 12 (K.runS m x0).fst.core.csr), (SV.rd ETy.u8 (K.runS m x0).fst.mem), (SV.v (Value.int IntKind.u64 (K.runS m x0).fst.time)), (SV.rd ETy.u8 (K.runS m x0).fst.out), (SV.v (Value.bool (K.runS m x0).fst.halted))]), (SV.v (Value.int IntKind.i64 (Int.ofNat x0))), (SV.b false)]))
 else
 (bif (decide (And ((List.length (K.runS m x0).fst.mem) ≤ 1099511627776) ((List.length (K.runS m x0).fst.out) ≤ 1099511627776))) then
 (Tree.letv (okO [AT.mach, AT.trap]) (K.step (K.runS m x0).fst) fun x1 =>
 ((Tree.next 0 [(SV.yld 9), (SV.loc 0 0 0 1), (SV.loc 1 0 0 1), (SV.loc 2 0 0 1), (SV.v (Value.int IntKind.i64 (IntKind.wrap IntKind.i64 ((Int.ofNat x0) + (1 : Int)))))] [(Blk.cells [(SV.arr IntKind.u32 16 m.core.regs), (SV.v (Value.int IntKind.u32 m.core.pc)), (SV.arr IntKind.u32 12 m.core.csr), (SV.rd ETy.u8 m.mem), (SV.v (Value.int IntKind.u64 m.time)), (SV.rd ETy.u8 m.out), (SV.v (Value.bool m.halted))] 30), (Blk.cells [(SV.v (Value.int IntKind.i64 n))] 3), (Blk.cells [(SV.arr IntKind.u32 16 x1.fst.core.regs), (SV.v (Value.int IntKind.u32 x1.fst.core.pc)), (SV.arr IntKind.u32 12 x1.fst.core.csr), (SV.rd ETy.u8 x1.fst.mem), (SV.v (Value.int IntKind.u64 x1.fst.time)), (SV.rd ETy.u8 x1.fst.out), (SV.v (Value.bool x1.fst.halted)), (SV.v (Value.int IntKind.i64 x1.snd.cause)), (SV.v (Value.int IntKind.u32 x1.snd.tval))] 67), (Blk.cells [(SV.arr IntKind.u32 16 (K.runS m x0).fst.core.regs), (SV.v (Value.int IntKind.u32 (K.runS m x0).fst.core.pc)), (SV.arr IntKind.u32 12 (K.runS m x0).fst.core.csr), (SV.rd ETy.u8 (K.runS m x0).fst.mem), (SV.v (Value.int IntKind.u64 (K.runS m x0).fst.time)), (SV.rd ETy.u8 (K.runS m x0).fst.out), (SV.v (Value.bool (K.runS m x0).fst.halted))] 30), (Blk.cells [(SV.v (Value.int IntKind.u32 pc))] 22), (Blk.cells [(SV.arr IntKind.u32 16 [(0 : Int), (0 : Int), (0 : Int), (0 : Int), (0 : Int), (0 : Int), (0 : Int), (0 : Int), (0 : Int), (0 : Int), (0 : Int), (0 : Int), (0 : Int), (0 : Int), (0 : Int), (0 : Int)]), (SV.v (Value.int IntKind.u32 (0 : Int))), (SV.arr IntKind.u32 12 [(0 : Int), (0 : Int), (0 : Int), (0 : Int), (0 : Int), (0 : Int), (0 : Int), (0 : Int), (0 : Int), (0 : Int), (0 : Int), (0 : Int)]), (SV.v (Value.slice Option.none 0 0)), (SV.v (Value.int IntKind.u64 (0 : Int))), (SV.v (Value.slice Option.none 0 0)), (SV.b false)] 30), (Blk.cells [(SV.v (Value.int IntKind.i64 (0 : Int)))] 3), (Blk.cells [(SV.b false)] 4), (Blk.cells [(SV.v (Value.int IntKind.i64 (Int.ofNat x0)))] 3), (Blk.lp [(SV.agg [(SV.arr IntKind.u32 16 m.core.regs), (SV.v (Value.int IntKind.u32 m.core.pc)), (SV.arr IntKind.u32 12 m.core.csr), (SV.rd ETy.u8 m.mem), (SV.v (Value.int IntKind.u64 m.time)), (SV.rd ETy.u8 m.out), (SV.v (Value.bool m.halted))]), (SV.v (Value.int IntKind.i64 n)), (SV.v (Value.int IntKind.u32 pc)), (SV.loc 3 0 0 1), SV.undef, (SV.loc 4 0 0 1), (SV.loc 5 0 0 1), (SV.loc 6 0 0 1), (SV.loc 7 0 0 1), (SV.loc 8 0 0 1), SV.undef, SV.undef, (SV.agg [(SV.arr IntKind.u32 16 m.core.regs), (SV.v (Value.int IntKind.u32 m.core.pc)), (SV.arr IntKind.u32 12 m.core.csr), (SV.rd ETy.u8 m.mem), (SV.v (Value.int IntKind.u64 m.time)), (SV.rd ETy.u8 m.out), (SV.v (Value.bool m.halted))]), (SV.v (Value.int IntKind.i64 n)), SV.junk, SV.undef, SV.undef, SV.undef, SV.undef, SV.undef, SV.undef, SV.undef, SV.undef, SV.undef, SV.undef, SV.undef, SV.undef, SV.undef, SV.undef] #[15, 16] (Code.seq (Code.region 3 #[(Oper.mk (Option.some 10) (Op.assign (Operand.tmp 15)) 3 "run.go:53" #[] Option.none)] false) (Code.region 4 #[(Oper.mk (Option.some 11) (Op.alloc 67) 0 "run.go:53" #[] Option.none), (Oper.mk Option.none (Op.store 67 (Operand.tmp 11) (Operand.tmp 16)) 0 "run.go:53" #[(Edge.mk 0 Ground.data), (Edge.mk 0 Ground.phase)] Option.none)] false)) (Code.block 1 (Code.seq (Code.region 5 #[(Oper.mk (Option.some 17) (Op.fieldAddr 67 (Operand.tmp 11) 0) 0 "run.go:54" #[] Option.none), (Oper.mk (Option.some 18) (Op.load 30 (Operand.tmp 17)) 30 "run.go:54" #[(Edge.mk 0 Ground.data)] Option.none), (Oper.mk (Option.some 19) (Op.move (Operand.tmp 10)) 3 "run.go:54" #[(Edge.mk 3 (Ground.gcOnly Departure.lateStores))] Option.none), (Oper.mk Option.none (Op.store 30 (Operand.tmp 3) (Operand.tmp 18)) 0 "run.go:54" #[(Edge.mk 1 Ground.data), (Edge.mk 0 Ground.phase), (Edge.mk 1 Ground.phase), (Edge.mk 2 (Ground.textOnly Departure.lateStores))] Option.none), (Oper.mk Option.none (Op.store 3 (Operand.tmp 9) (Operand.tmp 19)) 0 "run.go:54" #[(Edge.mk 2 Ground.data), (Edge.mk 3 Ground.chain), (Edge.mk 0 Ground.phase), (Edge.mk 1 Ground.phase), (Edge.mk 2 Ground.phase), (Edge.mk 3 Ground.phase)] Option.none)] false) (Code.seq (Code.region 6 #[(Oper.mk (Option.some 20) (Op.fieldAddr 30 (Operand.tmp 3) 0) 0 "run.go:55" #[] Option.none), (Oper.mk (Option.some 21) (Op.fieldAddr 26 (Operand.tmp 20) 1) 0 "run.go:55" #[(Edge.mk 0 Ground.data)] Option.none), (Oper.mk (Option.some 22) (Op.load 22 (Operand.tmp 21)) 22 "run.go:55" #[(Edge.mk 1 Ground.data)] Option.none), (Oper.mk (Option.some 23) (Op.load 22 (Operand.tmp 5)) 22 "run.go:55" #[] Option.none), (Oper.mk (Option.some 24) (Op.binOp BinOp.eql 22 (Operand.tmp 22) (Operand.tmp 23) 22) 4 "run.go:55" #[(Edge.mk 2 Ground.data), (Edge.mk 3 Ground.data)] Option.none)] false) (Code.cond (Operand.tmp 24) (Code.seq (Code.region 7 #[(Oper.mk (Option.some 25) (Op.load 30 (Operand.tmp 3)) 30 "run.go:56" #[] Option.none), (Oper.mk (Option.some 26) (Op.load 3 (Operand.tmp 9)) 3 "run.go:56" #[] Option.none), (Oper.mk Option.none (Op.store 30 (Operand.tmp 6) (Operand.tmp 25)) 0 "run.go:56" #[(Edge.mk 0 Ground.data), (Edge.mk 0 Ground.phase), (Edge.mk 1 (Ground.textOnly Departure.inlinedCapture))] Option.none), (Oper.mk Option.none (Op.store 3 (Operand.tmp 7) (Operand.tmp 26)) 0 "run.go:56" #[(Edge.mk 1 Ground.data), (Edge.mk 2 Ground.chain), (Edge.mk 0 Ground.phase), (Edge.mk 1 Ground.phase), (Edge.mk 2 Ground.phase)] Option.none), (Oper.mk Option.none (Op.store 4 (Operand.tmp 8) (Operand.const (Value.bool true))) 0 "run.go:56" #[(Edge.mk 3 Ground.chain), (Edge.mk 0 Ground.phase), (Edge.mk 1 Ground.phase), (Edge.mk 2 Ground.phase), (Edge.mk 3 Ground.phase)] Option.none)] true) Code.ret) Code.skip)))) LoopState.ready Option.none), Blk.dfr])))
 else
 (Tree.fail))))) := by kernel_rfl
section
attribute [local irreducible] evF evFL evFLs evFM
theorem a_run_RunUntil (m : PMach) (n : Int) (pc : Int) (hpre : n ≤ 100 ∧ m.mem.length ≤ 1073741824 ∧ m.out.length ≤ 1073741824) (ok_m : okMach m) (ok_n : okI .i64 n) (ok_pc : okI .u32 pc) : (evFM E_run_RunUntil (fun b => if b = 0 then some (fun s => L_runU m n pc (recAtU s [1, 2, 4, 1003, 1005, 1006, 1007, 1008, 1009])) else none) [] 60 11 (encArgs [.mach, .i .i64, .i .u32] (m, n, pc, ()))).ends fun out_ => decO [.mach, .i .i64, .b] out_ = some (K.runUntil m n pc) := by
  rw [t_run_RunUntil, Tree.ends_holds]
  obtain ⟨hn, hm, ho⟩ := hpre
  rw [Tree.holds_loop]
  refine ⟨⟨(0 : Nat), rfl, rfl, ⟨Nat.zero_le _, rfl, rfl, Nat.le_refl _⟩, trivial⟩, fun (i : Nat) hx => ?_⟩
  obtain ⟨i1, i2, i3, i4⟩ := hx
  have i1 : i ≤ 100 := i1
  have i2 : K.untilEnd m n pc (200 - i) i = K.untilN m n pc := i2
  have i3 : (K.runS m i).1.mem.length = m.mem.length := i3
  have i4 : (K.runS m i).1.out.length ≤ m.out.length + i := i4
  have w1 : IntKind.i64.wrap ((i : Int) + 1) = ((i + 1 : Nat) : Int) := by rw [wrapI64 (by omega) (by omega)]; rfl
  rw [show 200 - i = (199 - i) + 1 by omega] at i2
  have i2 : (if (K.runS m i).1.core.pc = pc ∨ (i : Int) ≥ n ∨ (K.runS m i).1.halted = true then i else K.untilEnd m n pc (199 - i) (i + 1)) = K.untilN m n pc := i2
  have sl := step_lens (K.runS m i).1
  simp only [Tree.holds_loop, Tree.holds_fork, Tree.holds_next, if_true, Tree.holds_cond, Tree.holds_letv, Tree.holds_leaf, Tree.holds_fail, decO, decA, decTup, decMach, decCore, decTrap, decInstr, decPart, decGuest, decConf, decEvent, decVcpu, decStep, bytesS, boolS, eventsS, intsS, guestsS, vcpusS, rowS, castL, Option.bind_some, Option.map_some, Option.some.injEq, Nat.beq_refl, beq_self_eq_true, Bool.and_self, cond_true, cond_false, eq_self, beq_iff_eq, beq_eq_false_iff_ne, bne_iff_ne, bne_eq_false_iff_eq, ne_eq, decide_eq_true_eq, decide_eq_false_iff_not, ble_true, ble_false, inRange_iff, inRange_false, Int.ofNat_eq_natCast, Int.toNat_natCast, w1]
  by_cases hx : (K.runS m i).1.core.pc = pc ∨ (i : Int) ≥ n ∨ (K.runS m i).1.halted = true
  · rw [if_pos hx] at i2
    have hr : K.runUntil m n pc = ((K.runS m i).1, (i : Int), (K.runS m i).1.core.pc == pc) := by unfold K.runUntil; rw [← i2]
    rw [hr]
    repeat' (first | refine drop_ok ?_ | intro _ | with_reducible apply And.intro)
    all_goals first
      | (rename_i q; rw [beq_iff_eq.2 q]; done)
      | (have : ((K.runS m i).1.core.pc == pc) = false := beq_eq_false_iff_ne.2 (by assumption)
         rw [this]; done)
      | (exfalso; omega)
      | (exfalso; rcases hx with q | q | q
         · exact absurd q (by assumption)
         · exact absurd q (by assumption)
         · simp_all)
      | trace_state
  · rw [if_neg hx] at i2
    have hpc : ¬ (K.runS m i).1.core.pc = pc := fun q => hx (.inl q)
    have hlt : (i : Int) < n := by
      have := fun q => hx (.inr (.inl q))
      omega
    have hh : (K.runS m i).1.halted = false := by
      cases hq : (K.runS m i).1.halted with
      | false => rfl
      | true => exact absurd (.inr (.inr hq)) hx
    refine ⟨fun q => absurd q hpc, fun _ => ⟨fun q => absurd q (by omega), fun _ => ⟨(fun q => by rw [hh] at q; cases q), fun _ => ⟨fun _ => fun _ => ?_, fun q => ?_⟩⟩⟩⟩
    · refine ⟨i + 1, rfl, rfl, ⟨by show i + 1 ≤ 100; omega, ?_, ?_, ?_⟩, by show 200 - (i + 1) < 200 - i; omega⟩
      · show K.untilEnd m n pc (200 - (i + 1)) (i + 1) = _
        rw [show 200 - (i + 1) = 199 - i by omega]; exact i2
      · show (K.step (K.runS m i).1).1.mem.length = _
        omega
      · show (K.step (K.runS m i).1).1.out.length ≤ _
        omega
    · exfalso; apply q; exact ⟨by omega, by omega⟩
  
theorem c_run_RunUntil : SpecOk EB_0_1_2 11 S_run_RunUntil := spec_sigM ok_run_RunUntil (n := 60) (fun (m, n, pc, _) => fun b => if b = 0 then some (fun s => L_runU m n pc (recAtU s [1, 2, 4, 1003, 1005, 1006, 1007, 1008, 1009])) else none) [] fun ⟨m, n, pc, ⟨⟩⟩ h hok => a_run_RunUntil m n pc (of_decide_eq_true h) (ok_mach (okSL_head hok)) (ok_int (okSL_head (okSL_tail hok))) (ok_int (okSL_head (okSL_tail (okSL_tail hok))))
end

/-! run_Traps -/
def recAtT (s : St) (keys : List Nat) : Blk := match s.T 0 with
  | .yld kl => match keysD s [kl, kl - 1] keys with
    | some ks => match (s.M kl).bind (renB (ks ++ [kl, kl - 1])) with
      | some b => b
      | none => .dfr
    | none => .dfr
  | _ => .dfr
@[reducible] def L_runT (m : PMach) (n : Int) (R : Blk) : LoopSpec where
  σ := Nat
  slots := [0, 1, 2, 4, 5]
  keys := [1, 2, 4, 1002, 1005, 2005]
  vals := fun i => [.yld 6, .loc 0 0 0 1, .loc 1 0 0 1, .loc 2 0 0 1, .v (.int .i64 (i : Int))]
  blks := fun i => [.cells (machC m) 30, .cells [.v (.int .i64 n)] 3, .cells (machC (K.runS m i).1 ++ trapC (K.runS m i).2) 67, .cells (machC m) 30, .cells [.own 5] 39, .row .trap (K.trapsTo m i) 54, R, .dfr]
  inv := fun i => i ≤ 100 ∧ K.runEnd m n (200 - i) i = K.runN m n ∧ (K.runS m i).1.mem.length = m.mem.length ∧ (K.runS m i).1.out.length ≤ m.out.length + i ∧ (K.trapsTo m i).length ≤ i
  mu := fun i => 200 - i
def S_run_Traps : Spec := sig [.mach, .i .i64] [.rd .trap] (fun (m, n, _) => K.traps m n) (pre := fun (m, n, _) => decide (n ≤ 100 ∧ m.mem.length ≤ 1073741824 ∧ m.out.length ≤ 1073741824))
noncomputable def E_run_Traps : Env := EB_0_1_2.adds [(51, S_step_Step)]

theorem ok_run_Traps : EnvOk E_run_Traps := okEB_0_1_2.adds (l := _) ⟨c_step_Step, trivial⟩

theorem t_run_Traps (m : PMach) (n : Int) : evFM E_run_Traps (fun b => if b = 0 then some (fun s => L_runT m n (recAtT s [1, 2, 4, 1002, 1005, 2005])) else none) [(5, (.trap, 54))] 60 15 (encArgs [.mach, .i .i64] (m, n, ())) = 
 Tree.loop 0 (L_runT m n (Blk.lp [(SV.agg [(SV.arr IntKind.u32 16 m.core.regs), (SV.v (Value.int IntKind.u32 m.core.pc)), (SV.arr IntKind.u32 12 m.core.csr), (SV.rd ETy.u8 m.mem), (SV.v (Value.int IntKind.u64 m.time)), (SV.rd ETy.u8 m.out), (SV.v (Value.bool m.halted))]), (SV.v (Value.int IntKind.i64 n)), (SV.loc 3 0 0 1), SV.undef, (SV.v (Value.slice Option.none 0 0)), (SV.loc 4 0 0 1), SV.undef, SV.undef, (SV.agg [(SV.arr IntKind.u32 16 m.core.regs), (SV.v (Value.int IntKind.u32 m.core.pc)), (SV.arr IntKind.u32 12 m.core.csr), (SV.rd ETy.u8 m.mem), (SV.v (Value.int IntKind.u64 m.time)), (SV.rd ETy.u8 m.out), (SV.v (Value.bool m.halted))]), (SV.v (Value.int IntKind.i64 n)), SV.junk, SV.undef, SV.undef, SV.undef, SV.undef, SV.undef, SV.undef, SV.undef, SV.undef, SV.undef, SV.undef, SV.undef, SV.undef] #[11, 12] (Code.region 3 #[(Oper.mk (Option.some 7) (Op.alloc 67) 0 "run.go:42" #[] Option.none), (Oper.mk Option.none (Op.store 67 (Operand.tmp 7) (Operand.tmp 12)) 0 "run.go:42" #[(Edge.mk 0 Ground.data), (Edge.mk 0 Ground.phase)] Option.none)] false) (Code.block 1 (Code.seq (Code.region 4 #[(Oper.mk (Option.some 13) (Op.fieldAddr 67 (Operand.tmp 7) 1) 0 "run.go:43" #[] Option.none), (Oper.mk (Option.some 14) (Op.fieldAddr 54 (Operand.tmp 13) 0) 0 "run.go:43" #[(Edge.mk 0 Ground.data)] Option.none), (Oper.mk (Option.some 15) (Op.load 3 (Operand.tmp 14)) 3 "run.go:43" #[(Edge.mk 1 Ground.data)] Option.none), (Oper.mk (Option.some 16) (Op.binOp BinOp.neq 3 (Operand.tmp 15) (Operand.const (Value.int IntKind.i64 (0 : Int))) 3) 4 "run.go:43" #[(Edge.mk 2 Ground.data)] Option.none)] false) (Code.cond (Operand.tmp 16) (Code.region 5 #[(Oper.mk (Option.some 17) (Op.load 39 (Operand.tmp 5)) 39 "run.go:44" #[] Option.none), (Oper.mk (Option.some 18) (Op.fieldAddr 67 (Operand.tmp 7) 1) 0 "run.go:44" #[] Option.none), (Oper.mk (Option.some 19) (Op.load 54 (Operand.tmp 18)) 54 "run.go:44" #[(Edge.mk 1 Ground.data)] Option.none), (Oper.mk (Option.some 20) (Op.buildSlice 39 1 #[(0, (Operand.tmp 19))]) 39 "run.go:44" #[(Edge.mk 2 Ground.data)] Option.none), (Oper.mk (Option.some 21) (Op.call (Call.mk (Callee.builtin Builtin.append) #[(Operand.tmp 17), (Operand.tmp 20)] #[39, 39])) 39 "run.go:44" #[(Edge.mk 0 Ground.data), (Edge.mk 3 Ground.data)] Option.none), (Oper.mk Option.none (Op.store 39 (Operand.tmp 5) (Operand.tmp 21)) 0 "run.go:44" #[(Edge.mk 4 Ground.data), (Edge.mk 4 Ground.chain), (Edge.mk 0 Ground.phase), (Edge.mk 1 Ground.phase), (Edge.mk 2 Ground.phase), (Edge.mk 3 Ground.phase), (Edge.mk 4 Ground.phase)] Option.none)] false) Code.skip))) LoopState.ready Option.none)) [(SV.yld 6), (SV.loc 0 0 0 1), (SV.loc 1 0 0 1), (SV.loc 2 0 0 1), (SV.v (Value.int IntKind.i64 (0 : Int)))] [(Blk.cells [(SV.arr IntKind.u32 16 m.core.regs), (SV.v (Value.int IntKind.u32 m.core.pc)), (SV.arr IntKind.u32 12 m.core.csr), (SV.rd ETy.u8 m.mem), (SV.v (Value.int IntKind.u64 m.time)), (SV.rd ETy.u8 m.out), (SV.v (Value.bool m.halted))] 30), (Blk.cells [(SV.v (Value.int IntKind.i64 n))] 3), (Blk.cells [(SV.arr IntKind.u32 16 m.core.regs), (SV.v (Value.int IntKind.u32 m.core.pc)), (SV.arr IntKind.u32 12 m.core.csr), (SV.rd ETy.u8 m.mem), (SV.v (Value.int IntKind.u64 m.time)), (SV.rd ETy.u8 m.out), (SV.v (Value.bool m.halted)), (SV.v (Value.int IntKind.i64 (0 : Int))), (SV.v (Value.int IntKind.u32 (0 : Int)))] 67), (Blk.cells [(SV.arr IntKind.u32 16 m.core.regs), (SV.v (Value.int IntKind.u32 m.core.pc)), (SV.arr IntKind.u32 12 m.core.csr), (SV.rd ETy.u8 m.mem), (SV.v (Value.int IntKind.u64 m.time)), (SV.rd ETy.u8 m.out), (SV.v (Value.bool m.halted))] 30), (Blk.cells [(SV.own 5)] 39), (Blk.row ETy.trap [] 54), (Blk.lp [(SV.agg [(SV.arr IntKind.u32 16 m.core.regs), (SV.v (Value.int IntKind.u32 m.core.pc)), (SV.arr IntKind.u32 12 m.core.csr), (SV.rd ETy.u8 m.mem), (SV.v (Value.int IntKind.u64 m.time)), (SV.rd ETy.u8 m.out), (SV.v (Value.bool m.halted))]), (SV.v (Value.int IntKind.i64 n)), (SV.loc 3 0 0 1), SV.undef, (SV.v (Value.slice Option.none 0 0)), (SV.loc 4 0 0 1), SV.undef, SV.undef, (SV.agg [(SV.arr IntKind.u32 16 m.core.regs), (SV.v (Value.int IntKind.u32 m.core.pc)), (SV.arr IntKind.u32 12 m.core.csr), (SV.rd ETy.u8 m.mem), (SV.v (Value.int IntKind.u64 m.time)), (SV.rd ETy.u8 m.out), (SV.v (Value.bool m.halted))]), (SV.v (Value.int IntKind.i64 n)), SV.junk, SV.undef, SV.undef, SV.undef, SV.undef, SV.undef, SV.undef, SV.undef, SV.undef, SV.undef, SV.undef, SV.undef, SV.undef] #[11, 12] (Code.region 3 #[(Oper.mk (Option.some 7) (Op.alloc 67) 0 "run.go:42" #[] Option.none), (Oper.mk Option.none (Op.store 67 (Operand.tmp 7) (Operand.tmp 12)) 0 "run.go:42" #[(Edge.mk 0 Ground.data), (Edge.mk 0 Ground.phase)] Option.none)] false) (Code.block 1 (Code.seq (Code.region 4 #[(Oper.mk (Option.some 13) (Op.fieldAddr 67 (Operand.tmp 7) 1) 0 "run.go:43" #[] Option.none), (Oper.mk (Option.some 14) (Op.fieldAddr 54 (Operand.tmp 13) 0) 0 "run.go:43" #[(Edge.mk 0 Ground.data)] Option.none), (Oper.mk (Option.some 15) (Op.load 3 (Operand.tmp 14)) 3 "run.go:43" #[(Edge.mk 1 Ground.data)] Option.none), (Oper.mk (Option.some 16) (Op.binOp BinOp.neq 3 (Operand.tmp 15) (Operand.const (Value.int IntKind.i64 (0 : Int))) 3) 4 "run.go:43" #[(Edge.mk 2 Ground.data)] Option.none)] false) (Code.cond (Operand.tmp 16) (Code.region 5 #[(Oper.mk (Option.some 17) (Op.load 39 (Operand.tmp 5)) 39 "run.go:44" #[] Option.none), (Oper.mk (Option.some 18) (Op.fieldAddr 67 (Operand.tmp 7) 1) 0 "run.go:44" #[] Option.none), (Oper.mk (Option.some 19) (Op.load 54 (Operand.tmp 18)) 54 "run.go:44" #[(Edge.mk 1 Ground.data)] Option.none), (Oper.mk (Option.some 20) (Op.buildSlice 39 1 #[(0, (Operand.tmp 19))]) 39 "run.go:44" #[(Edge.mk 2 Ground.data)] Option.none), (Oper.mk (Option.some 21) (Op.call (Call.mk (Callee.builtin Builtin.append) #[(Operand.tmp 17), (Operand.tmp 20)] #[39, 39])) 39 "run.go:44" #[(Edge.mk 0 Ground.data), (Edge.mk 3 Ground.data)] Option.none), (Oper.mk Option.none (Op.store 39 (Operand.tmp 5) (Operand.tmp 21)) 0 "run.go:44" #[(Edge.mk 4 Ground.data), (Edge.mk 4 Ground.chain), (Edge.mk 0 Ground.phase), (Edge.mk 1 Ground.phase), (Edge.mk 2 Ground.phase), (Edge.mk 3 Ground.phase), (Edge.mk 4 Ground.phase)] Option.none)] false) Code.skip))) LoopState.ready Option.none), Blk.dfr] fun (x0 : Nat) =>
 (bif (bne (K.runS m x0).snd.cause (0 : Int)) then
 (bif (Nat.ble (((List.length (K.trapsTo m x0)) + 1) * 16) 140737488355328) then
 (bif (decide ((Int.ofNat x0) ≥ n)) then
 (Tree.leaf (SV.rd ETy.trap (List.append (K.trapsTo m x0) [(K.runS m x0).snd])))
 else
 (bif (K.runS m x0).fst.halted then
 (Tree.leaf (SV.rd ETy.trap (List.append (K.trapsTo m x0) [(K.runS m x0).snd])))
 else
 (bif (decide (And ((List.length (K.runS m x0).fst.mem) ≤ 1099511627776) ((List.length (K.runS m x0).fst.out) ≤ 1099511627776))) then
 (Tree.letv (okO [AT.mach, AT.trap]) (K.step (K.runS m x0).fst) fun x1 =>
 ((Tree.next 0 [(SV.yld 6), (SV.loc 0 0 0 1), (SV.loc 1 0 0 1), (SV.loc 2 0 0 1), (SV.v (Value.int IntKind.i64 (IntKind.wrap IntKind.i64 ((Int.ofNat x0) + (1 : Int)))))] [(Blk.cells [(SV.arr IntKind.u32 16 m.core.regs), (SV.v (Value.int IntKind.u32 m.core.pc)), (SV.arr IntKind.u32 12 m.core.csr), (SV.rd ETy.u8 m.mem), (SV.v (Value.int IntKind.u64 m.time)), (SV.rd ETy.u8 m.out), (SV.v (Value.bool m.halted))] 30), (Blk.cells [(SV.v (Value.int IntKind.i64 n))] 3), (Blk.cells [(SV.arr IntKind.u32 16 x1.fst.core.regs), (SV.v (Value.int IntKind.u32 x1.fst.core.pc)), (SV.arr IntKind.u32 12 x1.fst.core.csr), (SV.rd ETy.u8 x1.fst.mem), (SV.v (Value.int IntKind.u64 x1.fst.time)), (SV.rd ETy.u8 x1.fst.out), (SV.v (Value.bool x1.fst.halted)), (SV.v (Value.int IntKind.i64 x1.snd.cause)), (SV.v (Value.int IntKind.u32 x1.snd.tval))] 67), (Blk.cells [(SV.arr IntKind.u32 16 m.core.regs), (SV.v (Value.int IntKind.u32 m.core.pc)), (SV.arr IntKind.u32 12 m.core.csr), (SV.rd ETy.u8 m.mem), (SV.v (Value.int IntKind.u64 m.time)), (SV.rd ETy.u8 m.out), (SV.v (Value.bool m.halted))] 30), (Blk.cells [(SV.own 5)] 39), (Blk.row ETy.trap (List.append (K.trapsTo m x0) [(K.runS m x0).snd]) 54), (Blk.lp [(SV.agg [(SV.arr IntKind.u32 16 m.core.regs), (SV.v (Value.int IntKind.u32 m.core.pc)), (SV.arr IntKind.u32 12 m.core.csr), (SV.rd ETy.u8 m.mem), (SV.v (Value.int IntKind.u64 m.time)), (SV.rd ETy.u8 m.out), (SV.v (Value.bool m.halted))]), (SV.v (Value.int IntKind.i64 n)), (SV.loc 3 0 0 1), SV.undef, (SV.v (Value.slice Option.none 0 0)), (SV.loc 4 0 0 1), SV.undef, SV.undef, (SV.agg [(SV.arr IntKind.u32 16 m.core.regs), (SV.v (Value.int IntKind.u32 m.core.pc)), (SV.arr IntKind.u32 12 m.core.csr), (SV.rd ETy.u8 m.mem), (SV.v (Value.int IntKind.u64 m.time)), (SV.rd ETy.u8 m.out), (SV.v (Value.bool m.halted))]), (SV.v (Value.int IntKind.i64 n)), SV.junk, SV.undef, SV.undef, SV.undef, SV.undef, SV.undef, SV.undef, SV.undef, SV.undef, SV.undef, SV.undef, SV.undef, SV.undef] #[11, 12] (Code.region 3 #[(Oper.mk (Option.some 7) (Op.alloc 67) 0 "run.go:42" #[] Option.none), (Oper.mk Option.none (Op.store 67 (Operand.tmp 7) (Operand.tmp 12)) 0 "run.go:42" #[(Edge.mk 0 Ground.data), (Edge.mk 0 Ground.phase)] Option.none)] false) (Code.block 1 (Code.seq (Code.region 4 #[(Oper.mk (Option.some 13) (Op.fieldAddr 67 (Operand.tmp 7) 1) 0 "run.go:43" #[] Option.none), (Oper.mk (Option.some 14) (Op.fieldAddr 54 (Operand.tmp 13) 0) 0 "run.go:43" #[(Edge.mk 0 Ground.data)] Option.none), (Oper.mk (Option.some 15) (Op.load 3 (Operand.tmp 14)) 3 "run.go:43" #[(Edge.mk 1 Ground.data)] Option.none), (Oper.mk (Option.some 16) (Op.binOp BinOp.neq 3 (Operand.tmp 15) (Operand.const (Value.int IntKind.i64 (0 : Int))) 3) 4 "run.go:43" #[(Edge.mk 2 Ground.data)] Option.none)] false) (Code.cond (Operand.tmp 16) (Code.region 5 #[(Oper.mk (Option.some 17) (Op.load 39 (Operand.tmp 5)) 39 "run.go:44" #[] Option.none), (Oper.mk (Option.some 18) (Op.fieldAddr 67 (Operand.tmp 7) 1) 0 "run.go:44" #[] Option.none), (Oper.mk (Option.some 19) (Op.load 54 (Operand.tmp 18)) 54 "run.go:44" #[(Edge.mk 1 Ground.data)] Option.none), (Oper.mk (Option.some 20) (Op.buildSlice 39 1 #[(0, (Operand.tmp 19))]) 39 "run.go:44" #[(Edge.mk 2 Ground.data)] Option.none), (Oper.mk (Option.some 21) (Op.call (Call.mk (Callee.builtin Builtin.append) #[(Operand.tmp 17), (Operand.tmp 20)] #[39, 39])) 39 "run.go:44" #[(Edge.mk 0 Ground.data), (Edge.mk 3 Ground.data)] Option.none), (Oper.mk Option.none (Op.store 39 (Operand.tmp 5) (Operand.tmp 21)) 0 "run.go:44" #[(Edge.mk 4 Ground.data), (Edge.mk 4 Ground.chain), (Edge.mk 0 Ground.phase), (Edge.mk 1 Ground.phase), (Edge.mk 2 Ground.phase), (Edge.mk 3 Ground.phase), (Edge.mk 4 Ground.phase)] Option.none)] false) Code.skip))) LoopState.ready Option.none), Blk.dfr])))
 else
 (Tree.fail))))
 else
 (Tree.fail))
 else
 (bif (decide ((Int.ofNat x0) ≥ n)) then
 (Tree.leaf (SV.rd ETy.trap (K.trapsTo m x0)))
 else
 (bif (K.runS m x0).fst.halted then
 (Tree.leaf (SV.rd ETy.trap (K.trapsTo m x0)))
 else
 (bif (decide (And ((List.length (K.runS m x0).fst.mem) ≤ 1099511627776) ((List.length (K.runS m x0).fst.out) ≤ 1099511627776))) then
 (Tree.letv (okO [AT.mach, AT.trap]) (K.step (K.runS m x0).fst) fun x1 =>
 ((Tree.next 0 [(SV.yld 6), (SV.loc 0 0 0 1), (SV.loc 1 0 0 1), (SV.loc 2 0 0 1), (SV.v (Value.int IntKind.i64 (IntKind.wrap IntKind.i64 ((Int.ofNat x0) + (1 : Int)))))] [(Blk.cells [(SV.arr IntKind.u32 16 m.core.regs), (SV.v (Value.int IntKind.u32 m.core.pc)), (SV.arr IntKind.u32 12 m.core.csr), (SV.rd ETy.u8 m.mem), (SV.v (Value.int IntKind.u64 m.time)), (SV.rd ETy.u8 m.out), (SV.v (Value.bool m.halted))] 30), (Blk.cells [(SV.v (Value.int IntKind.i64 n))] 3), (Blk.cells [(SV.arr IntKind.u32 16 x1.fst.core.regs), (SV.v (Value.int IntKind.u32 x1.fst.core.pc)), (SV.arr IntKind.u32 12 x1.fst.core.csr), (SV.rd ETy.u8 x1.fst.mem), (SV.v (Value.int IntKind.u64 x1.fst.time)), (SV.rd ETy.u8 x1.fst.out), (SV.v (Value.bool x1.fst.halted)), (SV.v (Value.int IntKind.i64 x1.snd.cause)), (SV.v (Value.int IntKind.u32 x1.snd.tval))] 67), (Blk.cells [(SV.arr IntKind.u32 16 m.core.regs), (SV.v (Value.int IntKind.u32 m.core.pc)), (SV.arr IntKind.u32 12 m.core.csr), (SV.rd ETy.u8 m.mem), (SV.v (Value.int IntKind.u64 m.time)), (SV.rd ETy.u8 m.out), (SV.v (Value.bool m.halted))] 30), (Blk.cells [(SV.own 5)] 39), (Blk.row ETy.trap (K.trapsTo m x0) 54), (Blk.lp [(SV.agg [(SV.arr IntKind.u32 16 m.core.regs), (SV.v (Value.int IntKind.u32 m.core.pc)), (SV.arr IntKind.u32 12 m.core.csr), (SV.rd ETy.u8 m.mem), (SV.v (Value.int IntKind.u64 m.time)), (SV.rd ETy.u8 m.out), (SV.v (Value.bool m.halted))]), (SV.v (Value.int IntKind.i64 n)), (SV.loc 3 0 0 1), SV.undef, (SV.v (Value.slice Option.none 0 0)), (SV.loc 4 0 0 1), SV.undef, SV.undef, (SV.agg [(SV.arr IntKind.u32 16 m.core.regs), (SV.v (Value.int IntKind.u32 m.core.pc)), (SV.arr IntKind.u32 12 m.core.csr), (SV.rd ETy.u8 m.mem), (SV.v (Value.int IntKind.u64 m.time)), (SV.rd ETy.u8 m.out), (SV.v (Value.bool m.halted))]), (SV.v (Value.int IntKind.i64 n)), SV.junk, SV.undef, SV.undef, SV.undef, SV.undef, SV.undef, SV.undef, SV.undef, SV.undef, SV.undef, SV.undef, SV.undef, SV.undef] #[11, 12] (Code.region 3 #[(Oper.mk (Option.some 7) (Op.alloc 67) 0 "run.go:42" #[] Option.none), (Oper.mk Option.none (Op.store 67 (Operand.tmp 7) (Operand.tmp 12)) 0 "run.go:42" #[(Edge.mk 0 Ground.data), (Edge.mk 0 Ground.phase)] Option.none)] false) (Code.block 1 (Code.seq (Code.region 4 #[(Oper.mk (Option.some 13) (Op.fieldAddr 67 (Operand.tmp 7) 1) 0 "run.go:43" #[] Option.none), (Oper.mk (Option.some 14) (Op.fieldAddr 54 (Operand.tmp 13) 0) 0 "run.go:43" #[(Edge.mk 0 Ground.data)] Option.none), (Oper.mk (Option.some 15) (Op.load 3 (Operand.tmp 14)) 3 "run.go:43" #[(Edge.mk 1 Ground.data)] Option.none), (Oper.mk (Option.some 16) (Op.binOp BinOp.neq 3 (Operand.tmp 15) (Operand.const (Value.int IntKind.i64 (0 : Int))) 3) 4 "run.go:43" #[(Edge.mk 2 Ground.data)] Option.none)] false) (Code.cond (Operand.tmp 16) (Code.region 5 #[(Oper.mk (Option.some 17) (Op.load 39 (Operand.tmp 5)) 39 "run.go:44" #[] Option.none), (Oper.mk (Option.some 18) (Op.fieldAddr 67 (Operand.tmp 7) 1) 0 "run.go:44" #[] Option.none), (Oper.mk (Option.some 19) (Op.load 54 (Operand.tmp 18)) 54 "run.go:44" #[(Edge.mk 1 Ground.data)] Option.none), (Oper.mk (Option.some 20) (Op.buildSlice 39 1 #[(0, (Operand.tmp 19))]) 39 "run.go:44" #[(Edge.mk 2 Ground.data)] Option.none), (Oper.mk (Option.some 21) (Op.call (Call.mk (Callee.builtin Builtin.append) #[(Operand.tmp 17), (Operand.tmp 20)] #[39, 39])) 39 "run.go:44" #[(Edge.mk 0 Ground.data), (Edge.mk 3 Ground.data)] Option.none), (Oper.mk Option.none (Op.store 39 (Operand.tmp 5) (Operand.tmp 21)) 0 "run.go:44" #[(Edge.mk 4 Ground.data), (Edge.mk 4 Ground.chain), (Edge.mk 0 Ground.phase), (Edge.mk 1 Ground.phase), (Edge.mk 2 Ground.phase), (Edge.mk 3 Ground.phase), (Edge.mk 4 Ground.phase)] Option.none)] false) Code.skip))) LoopState.ready Option.none), Blk.dfr])))
 else
 (Tree.fail))))) := by kernel_rfl
section
attribute [local irreducible] evF evFL evFLs evFM
theorem a_run_Traps (m : PMach) (n : Int) (hpre : n ≤ 100 ∧ m.mem.length ≤ 1073741824 ∧ m.out.length ≤ 1073741824) (ok_m : okMach m) (ok_n : okI .i64 n) : (evFM E_run_Traps (fun b => if b = 0 then some (fun s => L_runT m n (recAtT s [1, 2, 4, 1002, 1005, 2005])) else none) [(5, (.trap, 54))] 60 15 (encArgs [.mach, .i .i64] (m, n, ()))).ends fun out_ => decO [.rd .trap] out_ = some (K.traps m n) := by
  rw [t_run_Traps, Tree.ends_holds]
  obtain ⟨hn, hm, ho⟩ := hpre
  rw [Tree.holds_loop]
  refine ⟨⟨(0 : Nat), rfl, rfl, ⟨Nat.zero_le _, rfl, rfl, Nat.le_refl _, Nat.le_refl _⟩, trivial⟩, fun (i : Nat) hx => ?_⟩
  obtain ⟨i1, i2, i3, i4, i5⟩ := hx
  have i1 : i ≤ 100 := i1
  have i2 : K.runEnd m n (200 - i) i = K.runN m n := i2
  have i3 : (K.runS m i).1.mem.length = m.mem.length := i3
  have i4 : (K.runS m i).1.out.length ≤ m.out.length + i := i4
  have i5 : (K.trapsTo m i).length ≤ i := i5
  have w1 : IntKind.i64.wrap ((i : Int) + 1) = ((i + 1 : Nat) : Int) := by rw [wrapI64 (by omega) (by omega)]; rfl
  rw [show 200 - i = (199 - i) + 1 by omega] at i2
  have i2 : (if (i : Int) ≥ n ∨ (K.runS m i).1.halted = true then i else K.runEnd m n (199 - i) (i + 1)) = K.runN m n := i2
  have sl := step_lens (K.runS m i).1
  have ht : K.trapsTo m (i + 1) = if (K.runS m i).2.cause = 0 then K.trapsTo m i else K.trapsTo m i ++ [(K.runS m i).2] := rfl
  have at_ : ∀ l, l = K.trapsTo m (i + 1) → ¬ ((i : Int) ≥ n ∨ (K.runS m i).1.halted = true) → ∃ y : Nat, [Blk.row .trap l 54] = [Blk.row .trap (K.trapsTo m y) 54] := fun l h _ => ⟨i + 1, by rw [h]⟩
  simp only [Tree.holds_loop, Tree.holds_fork, Tree.holds_next, if_true, Tree.holds_cond, Tree.holds_letv, Tree.holds_leaf, Tree.holds_fail, decO, decA, decTup, decMach, decCore, decTrap, decInstr, decPart, decGuest, decConf, decEvent, decVcpu, decStep, bytesS, boolS, eventsS, intsS, guestsS, vcpusS, rowS, castL, Option.bind_some, Option.map_some, Option.some.injEq, Nat.beq_refl, beq_self_eq_true, Bool.and_self, cond_true, cond_false, eq_self, beq_iff_eq, beq_eq_false_iff_ne, bne_iff_ne, bne_eq_false_iff_eq, ne_eq, decide_eq_true_eq, decide_eq_false_iff_not, ble_true, ble_false, inRange_iff, inRange_false, Int.ofNat_eq_natCast, Int.toNat_natCast, w1]
  by_cases hx : (i : Int) ≥ n ∨ (K.runS m i).1.halted = true
  · rw [if_pos hx] at i2
    have hr : K.traps m n = K.trapsTo m (i + 1) := by unfold K.traps; rw [← i2]
    rw [hr, ht]
    by_cases hz : (K.runS m i).2.cause = 0
    · rw [if_pos hz]
      repeat' (first | refine drop_ok ?_ | intro _ | with_reducible apply And.intro)
      all_goals first
        | trivial
        | rfl
        | (exfalso; omega)
        | (exfalso; exact absurd hz (by assumption))
        | (exfalso; rcases hx with q | q
           · exact absurd q (by assumption)
           · simp_all)
        | trace_state
    · rw [if_neg hz]
      repeat' (first | refine drop_ok ?_ | intro _ | with_reducible apply And.intro)
      all_goals first
        | trivial
        | rfl
        | (exfalso; omega)
        | (exfalso; exact absurd (by assumption) hz)
        | (exfalso; rcases hx with q | q
           · exact absurd q (by assumption)
           · simp_all)
        | trace_state
  · rw [if_neg hx] at i2
    have hlt : (i : Int) < n := by
      have := fun q => hx (.inl q)
      omega
    have hh : (K.runS m i).1.halted = false := by
      cases hq : (K.runS m i).1.halted with
      | false => rfl
      | true => exact absurd (.inr hq) hx
    have inv2 : i + 1 ≤ 100 ∧ K.runEnd m n (200 - (i + 1)) (i + 1) = K.runN m n ∧ (K.runS m (i + 1)).1.mem.length = m.mem.length ∧ (K.runS m (i + 1)).1.out.length ≤ m.out.length + (i + 1) ∧ (K.trapsTo m (i + 1)).length ≤ i + 1 := by
      refine ⟨by omega, by rw [show 200 - (i + 1) = 199 - i by omega]; exact i2, ?_, ?_, ?_⟩
      · show (K.step (K.runS m i).1).1.mem.length = _
        omega
      · show (K.step (K.runS m i).1).1.out.length ≤ _
        omega
      · rw [ht]; split
        · omega
        · rw [List.length_append, List.length_singleton]; omega
    by_cases hz : (K.runS m i).2.cause = 0
    · rw [if_pos hz] at ht
      refine ⟨fun q => absurd hz q, fun _ => ⟨fun q => absurd q (by omega), fun _ => ⟨(fun q => by rw [hh] at q; cases q), fun _ => ⟨fun _ => fun _ => ?_, fun q => ?_⟩⟩⟩⟩
      · rw [← ht]
        exact ⟨i + 1, rfl, rfl, inv2, by show 200 - (i + 1) < 200 - i; omega⟩
      · exfalso; apply q; exact ⟨by omega, by omega⟩
    · rw [if_neg hz] at ht
      refine ⟨fun _ => ⟨fun _ => ⟨fun q => absurd q (by omega), fun _ => ⟨(fun q => by rw [hh] at q; cases q), fun _ => ⟨fun _ => fun _ => ?_, fun q => ?_⟩⟩⟩, fun q => by omega⟩, fun q => absurd q hz⟩
      · rw [show (K.trapsTo m i).append [(K.runS m i).2] = K.trapsTo m (i + 1) from ht.symm]
        exact ⟨i + 1, rfl, rfl, inv2, by show 200 - (i + 1) < 200 - i; omega⟩
      · exfalso; apply q; exact ⟨by omega, by omega⟩
  
theorem c_run_Traps : SpecOk EB_0_1_2 15 S_run_Traps := spec_sigM ok_run_Traps (n := 60) (fun (m, n, _) => fun b => if b = 0 then some (fun s => L_runT m n (recAtT s [1, 2, 4, 1002, 1005, 2005])) else none) [(5, (.trap, 54))] fun ⟨m, n, ⟨⟩⟩ h hok => a_run_Traps m n (of_decide_eq_true h) (ok_mach (okSL_head hok)) (ok_int (okSL_head (okSL_tail hok)))
end

/-! law14_awake -/

def S_law14_awake : Spec := sig [] [.b] (fun _ => true)
noncomputable def E_law14_awake : Env := EB_0_1_2.adds [(9, S_run_Run), (11, S_run_RunUntil), (15, S_run_Traps)]

theorem ok_law14_awake : EnvOk E_law14_awake := okEB_0_1_2.adds (l := _) ⟨c_run_Run, c_run_RunUntil, c_run_Traps, trivial⟩
theorem t_c_law14_awake : (evF E_law14_awake 60 7 []).inst = .leaf (.b true) := by kernel_rfl
section
attribute [local irreducible] evF
theorem c_law14_awake : SpecOk EB_0_1_2 7 S_law14_awake := spec_sig ok_law14_awake (n := 60) fun _ _ _ => Tree.of_inst (Q := .of _) (by
  show ((evF E_law14_awake 60 7 []).inst).holds _
  rw [t_c_law14_awake]; exact rfl)
end


/-! ref10_Few -/

def S_ref10_Few : Spec := sig [.mach] [.b] (fun (m, _) => K.few m)
noncomputable def E_ref10_Few : Env := EB.adds []

theorem ok_ref10_Few : EnvOk E_ref10_Few := okEB.adds (l := _) trivial

theorem t_ref10_Few (m : PMach) : evF E_ref10_Few 60 8 (encArgs [.mach] (m, ())) = 
 bif (decide ((Int.ofNat (List.length m.mem)) ≤ (600 : Int))) then
 (bif (decide ((Int.ofNat (List.length m.out)) ≤ (600 : Int))) then
 (Tree.leaf (SV.b true))
 else
 (Tree.leaf (SV.b false)))
 else
 (Tree.leaf (SV.b false)) := by kernel_rfl
section
attribute [local irreducible] evF evFL evFLs evFM
theorem a_ref10_Few (m : PMach) (ok_m : okMach m) : (evF E_ref10_Few 60 8 (encArgs [.mach] (m, ()))).ends fun out_ => decO [.b] out_ = some (K.few m) := by
  rw [t_ref10_Few, Tree.ends_holds]
  simp only [Tree.holds_loop, Tree.holds_fork, Tree.holds_next, if_true, Tree.holds_cond, Tree.holds_letv, Tree.holds_leaf, Tree.holds_fail, decO, decA, decTup, decMach, decCore, decTrap, decInstr, decPart, decGuest, decConf, decEvent, decVcpu, decStep, bytesS, boolS, eventsS, intsS, guestsS, vcpusS, rowS, castL, Option.bind_some, Option.map_some, Option.some.injEq, Nat.beq_refl, beq_self_eq_true, Bool.and_self, cond_true, cond_false, eq_self, beq_iff_eq, beq_eq_false_iff_ne, bne_iff_ne, bne_eq_false_iff_eq, ne_eq, decide_eq_true_eq, decide_eq_false_iff_not, ble_true, ble_false, inRange_iff, inRange_false]
  repeat' (first | refine drop_ok ?_ | intro _ | with_reducible apply And.intro)
  all_goals (first | omega | (simp_all [K.few]; done) | (simp_all [K.few] <;> omega) | simp_all [K.few])
  
theorem c_ref10_Few : SpecOk EB 8 S_ref10_Few := spec_sig ok_ref10_Few (n := 60) fun ⟨m, ⟨⟩⟩ h hok => a_ref10_Few m (ok_mach (okSL_head hok))
end

/-! ref09_Enabled -/

def S_ref09_Enabled : Spec := sig [.core] [.b] (fun (c, _) => K.ie c)
noncomputable def E_ref09_Enabled : Env := EB.adds []

theorem ok_ref09_Enabled : EnvOk E_ref09_Enabled := okEB.adds (l := _) trivial

theorem t_ref09_Enabled (c : PCore) : evF E_ref09_Enabled 60 89 (encArgs [.core] (c, ())) = 
 bif (BEq.beq (Int.tmod (IntKind.wrap IntKind.u32 (Int.tdiv (List.getD c.csr 0 (0 : Int)) (2 : Int))) (2 : Int)) (1 : Int)) then
 (Tree.leaf (SV.b true))
 else
 (Tree.leaf (SV.b false)) := by kernel_rfl
section
attribute [local irreducible] evF evFL evFLs evFM
theorem a_ref09_Enabled (c : PCore) (ok_c : okCore c) : (evF E_ref09_Enabled 60 89 (encArgs [.core] (c, ()))).ends fun out_ => decO [.b] out_ = some (K.ie c) := by
  rw [t_ref09_Enabled, Tree.ends_holds]
  obtain ⟨s0, s1⟩ := ok_c.csr.u32 (i := 0) (by omega)
  have e1 : Int.tmod (IntKind.u32.wrap (Int.tdiv (c.csr.getD 0 0) 2)) 2 = c.csr.getD 0 0 / 2 % 2 := by rw [Int.tdiv_eq_ediv_of_nonneg s0, wrap32, Int.tmod_eq_emod_of_nonneg (by omega)]; omega
  simp only [Tree.holds_loop, Tree.holds_fork, Tree.holds_next, if_true, Tree.holds_cond, Tree.holds_letv, Tree.holds_leaf, Tree.holds_fail, decO, decA, decTup, decMach, decCore, decTrap, decInstr, decPart, decGuest, decConf, decEvent, decVcpu, decStep, bytesS, boolS, eventsS, intsS, guestsS, vcpusS, rowS, castL, Option.bind_some, Option.map_some, Option.some.injEq, Nat.beq_refl, beq_self_eq_true, Bool.and_self, cond_true, cond_false, eq_self, beq_iff_eq, beq_eq_false_iff_ne, bne_iff_ne, bne_eq_false_iff_eq, ne_eq, decide_eq_true_eq, decide_eq_false_iff_not, ble_true, ble_false, inRange_iff, inRange_false, K.ie, e1]
  repeat' (first | refine drop_ok ?_ | intro _ | with_reducible apply And.intro)
  all_goals (simp_all; try omega)
  
theorem c_ref09_Enabled : SpecOk EB 89 S_ref09_Enabled := spec_sig ok_ref09_Enabled (n := 60) fun ⟨c, ⟨⟩⟩ h hok => a_ref09_Enabled c (ok_core (okSL_head hok))
end

/-! ref04_Compare -/

def S_ref04_Compare : Spec := sig [.a .u32 12] [.i .u64] (fun (c, _) => K.cmp c)
noncomputable def E_ref04_Compare : Env := EB.adds []

theorem ok_ref04_Compare : EnvOk E_ref04_Compare := okEB.adds (l := _) trivial

theorem t_ref04_Compare (c : List Int) : evF E_ref04_Compare 60 90 (encArgs [.a .u32 12] (c, ())) = 
 Tree.leaf (SV.v (Value.int IntKind.u64 (IntKind.wrap IntKind.u64 ((IntKind.wrap IntKind.u64 ((IntKind.wrap IntKind.u64 (List.getD c 10 (0 : Int))) * (4294967296 : Int))) + (IntKind.wrap IntKind.u64 (List.getD c 9 (0 : Int))))))) := by kernel_rfl
section
attribute [local irreducible] evF evFL evFLs evFM
theorem a_ref04_Compare (c : List Int) (ok_c : okL .u32 12 c) : (evF E_ref04_Compare 60 90 (encArgs [.a .u32 12] (c, ()))).ends fun out_ => decO [.i .u64] out_ = some (K.cmp c) := by
  rw [t_ref04_Compare, Tree.ends_holds]
  obtain ⟨a0, a1⟩ := ok_c.u32 (i := 9) (by omega)
  obtain ⟨b0, b1⟩ := ok_c.u32 (i := 10) (by omega)
  simp only [Tree.holds_loop, Tree.holds_fork, Tree.holds_next, if_true, Tree.holds_cond, Tree.holds_letv, Tree.holds_leaf, Tree.holds_fail, decO, decA, decTup, decMach, decCore, decTrap, decInstr, decPart, decGuest, decConf, decEvent, decVcpu, decStep, bytesS, boolS, eventsS, intsS, guestsS, vcpusS, rowS, castL, Option.bind_some, Option.map_some, Option.some.injEq, Nat.beq_refl, beq_self_eq_true, Bool.and_self, cond_true, cond_false, eq_self, K.cmp, wrap64]
  generalize c.getD 9 0 = a at *
  generalize c.getD 10 0 = b at *
  show @Eq Int _ _
  omega
  
theorem c_ref04_Compare : SpecOk EB 90 S_ref04_Compare := spec_sig ok_ref04_Compare (n := 60) fun ⟨c, ⟨⟩⟩ h hok => a_ref04_Compare c (ok_arr (okSL_head hok))
end

/-! ref10_Due -/

def S_ref10_Due : Spec := sig [.mach] [.b] (fun (m, _) => K.due m)
noncomputable def E_ref10_Due : Env := EB.adds [(89, S_ref09_Enabled), (90, S_ref04_Compare)]

theorem ok_ref10_Due : EnvOk E_ref10_Due := okEB.adds (l := _) ⟨c_ref09_Enabled, c_ref04_Compare, trivial⟩

theorem t_ref10_Due (m : PMach) : evF E_ref10_Due 60 52 (encArgs [.mach] (m, ())) = 
 Tree.letv (okO [AT.b]) (K.ie m.core) fun x0 =>
 (bif x0 then
 (Tree.letv (okO [(AT.i IntKind.u64)]) (K.cmp m.core.csr) fun x1 =>
 (bif (decide (m.time ≥ x1)) then
 (Tree.leaf (SV.b true))
 else
 (Tree.leaf (SV.b false))))
 else
 (Tree.leaf (SV.b false))) := by kernel_rfl
section
attribute [local irreducible] evF evFL evFLs evFM
theorem a_ref10_Due (m : PMach) (ok_m : okMach m) : (evF E_ref10_Due 60 52 (encArgs [.mach] (m, ()))).ends fun out_ => decO [.b] out_ = some (K.due m) := by
  rw [t_ref10_Due, Tree.ends_holds]
  simp only [Tree.holds_loop, Tree.holds_fork, Tree.holds_next, if_true, Tree.holds_cond, Tree.holds_letv, Tree.holds_leaf, Tree.holds_fail, decO, decA, decTup, decMach, decCore, decTrap, decInstr, decPart, decGuest, decConf, decEvent, decVcpu, decStep, bytesS, boolS, eventsS, intsS, guestsS, vcpusS, rowS, castL, Option.bind_some, Option.map_some, Option.some.injEq, Nat.beq_refl, beq_self_eq_true, Bool.and_self, cond_true, cond_false, eq_self, beq_iff_eq, beq_eq_false_iff_ne, bne_iff_ne, bne_eq_false_iff_eq, ne_eq, decide_eq_true_eq, decide_eq_false_iff_not, ble_true, ble_false, inRange_iff, inRange_false, K.due]
  repeat' (first | refine drop_ok ?_ | intro _ | with_reducible apply And.intro)
  all_goals simp_all
  
theorem c_ref10_Due : SpecOk EB 52 S_ref10_Due := spec_sig ok_ref10_Due (n := 60) fun ⟨m, ⟨⟩⟩ h hok => a_ref10_Due m (ok_mach (okSL_head hok))
end

/-! ref01_Pow -/
@[reducible] def L_ref01_Pow (n : Int) : LoopSpec where
  σ := Nat
  slots := [0, 3, 4]
  keys := []
  vals := fun j => [.v (.int .i64 n), .v (.int .u64 ((2 ^ j : Nat) : Int)), .v (.int .i64 (j : Int))]
  blks := fun _ => []
  inv := fun j => j ≤ n.toNat
  mu := fun j => n.toNat - j
def S_ref01_Pow : Spec := sig [.i .i64] [.i .u64] (fun (n, _) => K.pow n) (pre := fun (n, _) => decide (n ≤ 63))
noncomputable def E_ref01_Pow : Env := EB.adds []

theorem ok_ref01_Pow : EnvOk E_ref01_Pow := okEB.adds (l := _) trivial

theorem t_ref01_Pow (n : Int) : evFL E_ref01_Pow (fun _ => some (L_ref01_Pow n)) 60 98 (encArgs [.i .i64] (n, ())) = 
 Tree.loop 0 (L_ref01_Pow n) [(SV.v (Value.int IntKind.i64 n)), (SV.v (Value.int IntKind.u64 (1 : Int))), (SV.v (Value.int IntKind.i64 (0 : Int)))] [] fun (x0 : Nat) =>
 (bif (decide ((Int.ofNat x0) < n)) then
 ((Tree.next 0 [(SV.v (Value.int IntKind.i64 n)), (SV.v (Value.int IntKind.u64 (IntKind.wrap IntKind.u64 ((Int.ofNat (2 ^ x0)) * (2 : Int))))), (SV.v (Value.int IntKind.i64 (IntKind.wrap IntKind.i64 ((Int.ofNat x0) + (1 : Int)))))] []))
 else
 (Tree.leaf (SV.v (Value.int IntKind.u64 (Int.ofNat (2 ^ x0)))))) := by kernel_rfl
section
attribute [local irreducible] evF evFL evFLs evFM
theorem a_ref01_Pow (n : Int) (hpre : n ≤ 63) (ok_n : okI .i64 n) : (evFL E_ref01_Pow (fun _ => some (L_ref01_Pow n)) 60 98 (encArgs [.i .i64] (n, ()))).ends fun out_ => decO [.i .u64] out_ = some (K.pow n) := by
  rw [t_ref01_Pow, Tree.ends_holds]
  simp only [Tree.holds_loop]
  refine ⟨⟨(0 : Nat), rfl, rfl, Nat.zero_le _, trivial⟩, fun (j : Nat) (hj : j ≤ n.toNat) => ?_⟩
  simp only [Tree.holds_loop, Tree.holds_fork, Tree.holds_next, if_true, Tree.holds_cond, Tree.holds_letv, Tree.holds_leaf, Tree.holds_fail]
  have h63 := pow63 (j := j) (by omega)
  refine ⟨fun h => ⟨j + 1, ?_, rfl, ?_, ?_⟩, fun h => ?_⟩
  · have h : (j : Int) < n := by simpa using h
    have h2 := pow63 (j := j + 1) (by omega)
    have e1 : IntKind.u64.wrap (((2 ^ j : Nat) : Int) * 2) = ((2 ^ (j + 1) : Nat) : Int) := by rw [wrap64, Nat.pow_succ] at *; omega
    have e2 : IntKind.i64.wrap ((j : Int) + 1) = ((j + 1 : Nat) : Int) := by rw [wrapI64 (by omega) (by omega)]; rfl
    show _ = [SV.v (.int .i64 n), .v (.int .u64 ((2 ^ (j + 1) : Nat) : Int)), .v (.int .i64 ((j + 1 : Nat) : Int))]
    rw [← e1, ← e2]; rfl
  · have h : (j : Int) < n := by simpa using h
    show j + 1 ≤ n.toNat; omega
  · have h : (j : Int) < n := by simpa using h
    show n.toNat - (j + 1) < n.toNat - j; omega
  · have h : n ≤ (j : Int) := by simpa using h
    have : j = n.toNat := by omega
    subst this; rfl
  
theorem c_ref01_Pow : SpecOk EB 98 S_ref01_Pow := spec_sigL ok_ref01_Pow (n := 60) (fun (n, _) => fun _ => some (L_ref01_Pow n)) fun ⟨n, ⟨⟩⟩ h hok => a_ref01_Pow n (of_decide_eq_true h) (ok_int (okSL_head hok))
end

/-! ref01_Field -/

def S_ref01_Field : Spec := sig [.i .u32, .i .i64, .i .i64] [.i .u32] (fun (w, at_, n, _) => K.field w at_ n) (pre := fun (w, at_, n, _) => decide (at_ ≤ 63 ∧ n ≤ 63))
noncomputable def E_ref01_Field : Env := EB.adds [(98, S_ref01_Pow)]

theorem ok_ref01_Field : EnvOk E_ref01_Field := okEB.adds (l := _) ⟨c_ref01_Pow, trivial⟩

theorem t_ref01_Field (w : Int) (at_ : Int) (n : Int) : evF E_ref01_Field 60 94 (encArgs [.i .u32, .i .i64, .i .i64] (w, at_, n, ())) = 
 bif (decide (at_ ≤ (63 : Int))) then
 (Tree.letv (okO [(AT.i IntKind.u64)]) (K.pow at_) fun x0 =>
 (bif (bne x0 (0 : Int)) then
 (bif (decide (n ≤ (63 : Int))) then
 (Tree.letv (okO [(AT.i IntKind.u64)]) (K.pow n) fun x1 =>
 (bif (bne x1 (0 : Int)) then
 (Tree.leaf (SV.v (Value.int IntKind.u32 (IntKind.wrap IntKind.u32 (Int.tmod (IntKind.wrap IntKind.u64 (Int.tdiv (IntKind.wrap IntKind.u64 w) x0)) x1)))))
 else
 (Tree.fail)))
 else
 (Tree.fail))
 else
 (Tree.fail)))
 else
 (Tree.fail) := by kernel_rfl
section
attribute [local irreducible] evF evFL evFLs evFM
theorem a_ref01_Field (w : Int) (at_ : Int) (n : Int) (hpre : at_ ≤ 63 ∧ n ≤ 63) (ok_w : okI .u32 w) (ok_at_ : okI .i64 at_) (ok_n : okI .i64 n) : (evF E_ref01_Field 60 94 (encArgs [.i .u32, .i .i64, .i .i64] (w, at_, n, ()))).ends fun out_ => decO [.i .u32] out_ = some (K.field w at_ n) := by
  rw [t_ref01_Field, Tree.ends_holds]
  obtain ⟨w0, w1⟩ := okI_u32 ok_w
  have p1 := K.pow_pos at_
  have p2 := K.pow_pos n
  have p3 := K.pow_le hpre.1
  have p4 := K.pow_le hpre.2
  have q1 : w / K.pow at_ ≤ w := Int.ediv_le_self _ w0
  have q0 : 0 ≤ w / K.pow at_ := Int.ediv_nonneg w0 (by omega)
  have q2 := Int.emod_nonneg (w / K.pow at_) (show K.pow n ≠ 0 by omega)
  have q3 : w / K.pow at_ % K.pow n ≤ w / K.pow at_ := emod_le q0 p2
  have e1 : IntKind.u64.wrap w = w := by rw [wrap64]; omega
  have e2 : Int.tdiv w (K.pow at_) = w / K.pow at_ := Int.tdiv_eq_ediv_of_nonneg w0
  have e3 : IntKind.u64.wrap (w / K.pow at_) = w / K.pow at_ := by rw [wrap64]; omega
  have e4 : Int.tmod (w / K.pow at_) (K.pow n) = w / K.pow at_ % K.pow n := Int.tmod_eq_emod_of_nonneg q0
  have e5 : IntKind.u32.wrap (w / K.pow at_ % K.pow n) = w / K.pow at_ % K.pow n := by rw [wrap32]; omega
  simp only [Tree.holds_loop, Tree.holds_fork, Tree.holds_next, if_true, Tree.holds_cond, Tree.holds_letv, Tree.holds_leaf, Tree.holds_fail, decO, decA, decTup, decMach, decCore, decTrap, decInstr, decPart, decGuest, decConf, decEvent, decVcpu, decStep, bytesS, boolS, eventsS, intsS, guestsS, vcpusS, rowS, castL, Option.bind_some, Option.map_some, Option.some.injEq, Nat.beq_refl, beq_self_eq_true, Bool.and_self, cond_true, cond_false, eq_self, K.field, decide_eq_true hpre.1, decide_eq_true hpre.2, e1, e2, e3, e4, e5]
  have n1 : (K.pow at_ != 0) = true := bne_iff_ne.2 (by omega)
  have n2 : (K.pow n != 0) = true := bne_iff_ne.2 (by omega)
  simp [n1, n2]
  
theorem c_ref01_Field : SpecOk EB 94 S_ref01_Field := spec_sig ok_ref01_Field (n := 60) fun ⟨w, at_, n, ⟨⟩⟩ h hok => a_ref01_Field w at_ n (of_decide_eq_true h) (ok_int (okSL_head hok)) (ok_int (okSL_head (okSL_tail hok))) (ok_int (okSL_head (okSL_tail (okSL_tail hok))))
end

/-! ref01_Put -/
def K.putTo (w at_ n v : Int) (j : Nat) : Int := ((K.bput w at_ n v).toNat % 2 ^ j : Nat)
@[reducible] def L_ref01_Put (w at_ n v : Int) : LoopSpec where
  σ := Nat
  slots := [0, 1, 2, 3, 9, 10]
  keys := []
  vals := fun j => [.v (.int .u32 w), .v (.int .i64 at_), .v (.int .i64 n), .v (.int .u32 v), .v (.int .u64 (K.putTo w at_ n v j)), .v (.int .i64 (j : Int))]
  blks := fun _ => []
  inv := fun j => j ≤ 32
  mu := fun j => 32 - j
def S_ref01_Put : Spec := sig [.i .u32, .i .i64, .i .i64, .i .u32] [.i .u32] (fun (w, at_, n, v, _) => K.bput w at_ n v) (pre := fun (w, at_, n, v, _) => decide (0 ≤ at_ ∧ 0 ≤ n ∧ at_ + n ≤ 32))
noncomputable def E_ref01_Put : Env := EB.adds [(98, S_ref01_Pow), (94, S_ref01_Field)]

theorem ok_ref01_Put : EnvOk E_ref01_Put := okEB.adds (l := _) ⟨c_ref01_Pow, c_ref01_Field, trivial⟩

theorem t_ref01_Put (w : Int) (at_ : Int) (n : Int) (v : Int) : evFL E_ref01_Put (fun _ => some (L_ref01_Put w at_ n v)) 60 95 (encArgs [.i .u32, .i .i64, .i .i64, .i .u32] (w, at_, n, v, ())) = 
 Tree.loop 0 (L_ref01_Put w at_ n v) [(SV.v (Value.int IntKind.u32 w)), (SV.v (Value.int IntKind.i64 at_)), (SV.v (Value.int IntKind.i64 n)), (SV.v (Value.int IntKind.u32 v)), (SV.v (Value.int IntKind.u64 (0 : Int))), (SV.v (Value.int IntKind.i64 (0 : Int)))] [] fun (x0 : Nat) =>
 (bif (decide ((Int.ofNat x0) < (32 : Int))) then
 (bif (decide (And ((Int.ofNat x0) ≤ (63 : Int)) ((1 : Int) ≤ (63 : Int)))) then
 (Tree.letv (okO [(AT.i IntKind.u32)]) (K.field w (Int.ofNat x0) (1 : Int)) fun x1 =>
 (bif (decide ((Int.ofNat x0) ≥ at_)) then
 (bif (decide ((Int.ofNat x0) < (IntKind.wrap IntKind.i64 (at_ + n)))) then
 (bif (decide (And ((IntKind.wrap IntKind.i64 ((Int.ofNat x0) - at_)) ≤ (63 : Int)) ((1 : Int) ≤ (63 : Int)))) then
 (Tree.letv (okO [(AT.i IntKind.u32)]) (K.field v (IntKind.wrap IntKind.i64 ((Int.ofNat x0) - at_)) (1 : Int)) fun x2 =>
 (bif (decide ((Int.ofNat x0) ≤ (63 : Int))) then
 (Tree.letv (okO [(AT.i IntKind.u64)]) (K.pow (Int.ofNat x0)) fun x3 =>
 ((Tree.next 0 [(SV.v (Value.int IntKind.u32 w)), (SV.v (Value.int IntKind.i64 at_)), (SV.v (Value.int IntKind.i64 n)), (SV.v (Value.int IntKind.u32 v)), (SV.v (Value.int IntKind.u64 (IntKind.wrap IntKind.u64 ((K.putTo w at_ n v x0) + (IntKind.wrap IntKind.u64 ((IntKind.wrap IntKind.u64 x2) * x3)))))), (SV.v (Value.int IntKind.i64 (IntKind.wrap IntKind.i64 ((Int.ofNat x0) + (1 : Int)))))] [])))
 else
 (Tree.fail)))
 else
 (Tree.fail))
 else
 (bif (decide ((Int.ofNat x0) ≤ (63 : Int))) then
 (Tree.letv (okO [(AT.i IntKind.u64)]) (K.pow (Int.ofNat x0)) fun x2 =>
 ((Tree.next 0 [(SV.v (Value.int IntKind.u32 w)), (SV.v (Value.int IntKind.i64 at_)), (SV.v (Value.int IntKind.i64 n)), (SV.v (Value.int IntKind.u32 v)), (SV.v (Value.int IntKind.u64 (IntKind.wrap IntKind.u64 ((K.putTo w at_ n v x0) + (IntKind.wrap IntKind.u64 ((IntKind.wrap IntKind.u64 x1) * x2)))))), (SV.v (Value.int IntKind.i64 (IntKind.wrap IntKind.i64 ((Int.ofNat x0) + (1 : Int)))))] [])))
 else
 (Tree.fail)))
 else
 (bif (decide ((Int.ofNat x0) ≤ (63 : Int))) then
 (Tree.letv (okO [(AT.i IntKind.u64)]) (K.pow (Int.ofNat x0)) fun x2 =>
 ((Tree.next 0 [(SV.v (Value.int IntKind.u32 w)), (SV.v (Value.int IntKind.i64 at_)), (SV.v (Value.int IntKind.i64 n)), (SV.v (Value.int IntKind.u32 v)), (SV.v (Value.int IntKind.u64 (IntKind.wrap IntKind.u64 ((K.putTo w at_ n v x0) + (IntKind.wrap IntKind.u64 ((IntKind.wrap IntKind.u64 x1) * x2)))))), (SV.v (Value.int IntKind.i64 (IntKind.wrap IntKind.i64 ((Int.ofNat x0) + (1 : Int)))))] [])))
 else
 (Tree.fail))))
 else
 (Tree.fail))
 else
 (Tree.leaf (SV.v (Value.int IntKind.u32 (IntKind.wrap IntKind.u32 (K.putTo w at_ n v x0)))))) := by kernel_rfl
section
attribute [local irreducible] evF evFL evFLs evFM
theorem a_ref01_Put (w : Int) (at_ : Int) (n : Int) (v : Int) (hpre : 0 ≤ at_ ∧ 0 ≤ n ∧ at_ + n ≤ 32) (ok_w : okI .u32 w) (ok_at_ : okI .i64 at_) (ok_n : okI .i64 n) (ok_v : okI .u32 v) : (evFL E_ref01_Put (fun _ => some (L_ref01_Put w at_ n v)) 60 95 (encArgs [.i .u32, .i .i64, .i .i64, .i .u32] (w, at_, n, v, ()))).ends fun out_ => decO [.i .u32] out_ = some (K.bput w at_ n v) := by
  rw [t_ref01_Put, Tree.ends_holds]
  obtain ⟨w0, w1⟩ := okI_u32 ok_w
  obtain ⟨v0, v1⟩ := okI_u32 ok_v
  obtain ⟨w, rfl⟩ := Int.eq_ofNat_of_zero_le w0
  obtain ⟨v, rfl⟩ := Int.eq_ofNat_of_zero_le v0
  obtain ⟨a, rfl⟩ := Int.eq_ofNat_of_zero_le hpre.1
  obtain ⟨n, rfl⟩ := Int.eq_ofNat_of_zero_le hpre.2.1
  have hT := bput_lt (w := w) (a := a) (n := n) (v := v) (by omega) (by omega)
  have hbit := fun j => bput_bit (w := w) (a := a) (n := n) (v := v) (j := j)
  have hK : (K.bput (w : Int) (a : Int) (n : Int) (v : Int)).toNat = 2 ^ a * (2 ^ n * (w / 2 ^ (a + n)) + v % 2 ^ n) + w % 2 ^ a := by unfold K.bput; rw [Int.toNat_natCast]; simp only [Int.toNat_natCast]
  simp only [Tree.holds_loop]
  refine ⟨⟨(0 : Nat), by simp [K.putTo, Nat.mod_one], rfl, Nat.zero_le _, trivial⟩, fun (j : Nat) (hj : j ≤ 32) => ?_⟩
  generalize 2 ^ a * (2 ^ n * (w / 2 ^ (a + n)) + v % 2 ^ n) + w % 2 ^ a = T at hT hbit hK
  simp only [Tree.holds_loop, Tree.holds_fork, Tree.holds_next, if_true, Tree.holds_cond, Tree.holds_letv, Tree.holds_leaf, Tree.holds_fail]
  have c63 : decide (Int.ofNat j ≤ 63 ∧ (1 : Int) ≤ 63) = true := by simp; omega
  have f1 : ∀ x i : Nat, x < 4294967296 → i < 32 → IntKind.u64.wrap (K.field (x : Int) (i : Int) 1) * K.pow (j : Int) = (((x.testBit i).toNat * 2 ^ j : Nat) : Int) := fun x i hx hi => by
    have : K.field (x : Int) (i : Int) 1 = ((x.testBit i).toNat : Int) := by
      unfold K.field K.pow
      rw [← div_bit_aux]
      simp
    rw [this, wrap64]
    have := Bool.toNat_le (x.testBit i)
    unfold K.pow
    rw [Int.natCast_mul, Int.emod_eq_of_lt (by omega) (by omega)]; simp
  refine ⟨fun h => ?_, fun h => ?_⟩
  · have hlt : j < 32 := by simp at h; omega
    have h2 := pow_le32 (i := j) (by omega)
    have e2 : IntKind.i64.wrap ((j : Int) + 1) = ((j + 1 : Nat) : Int) := by rw [wrapI64 (by omega) (by omega)]; rfl
    have e3 : IntKind.i64.wrap ((a : Int) + (n : Int)) = ((a + n : Nat) : Int) := by rw [wrapI64 (by omega) (by omega)]; rfl
    have key : ∀ x i : Nat, x < 4294967296 → i < 32 → x.testBit i = T.testBit j → IntKind.u64.wrap (K.putTo w a n v j + IntKind.u64.wrap (IntKind.u64.wrap (K.field (x : Int) (i : Int) 1) * K.pow (j : Int))) = K.putTo w a n v (j + 1) := fun x i hx hi hb => by
      rw [f1 x i hx hi, hb]
      unfold K.putTo
      rw [hK, wrap64, wrap64, bit_more_aux]
      have h3 : T % 2 ^ j < 2 ^ j := Nat.mod_lt _ (Nat.two_pow_pos j)
      have h4 := Bool.toNat_le (T.testBit j)
      have h5 : (T.testBit j).toNat * 2 ^ j ≤ 2 ^ j := by
        rcases Nat.le_one_iff_eq_zero_or_eq_one.1 h4 with e | e <;> rw [e] <;> omega
      rw [Nat.mul_comm (2 ^ j)]
      generalize (T.testBit j).toNat * 2 ^ j = z at *
      generalize T % 2 ^ j = y at *
      omega
    have nx : ∀ z : Int, z = K.putTo w a n v (j + 1) → (L_ref01_Put w a n v).at (fun y => (L_ref01_Put w a n v).mu y < (L_ref01_Put w a n v).mu j) [SV.v (.int .u32 (w : Int)), .v (.int .i64 (a : Int)), .v (.int .i64 (n : Int)), .v (.int .u32 (v : Int)), .v (.int .u64 z), .v (.int .i64 (IntKind.i64.wrap ((j : Int) + 1)))] [] := fun z hz => by
      refine ⟨j + 1, ?_, rfl, ?_, ?_⟩
      · rw [hz, e2]
      · show j + 1 ≤ 32; omega
      · show 32 - (j + 1) < 32 - j; omega
    have hw := key w j (by omega) hlt
    have hb := hbit j
    simp only [Int.ofNat_eq_natCast] at *
    have no : ∀ {q : Prop} [Decidable q], q → ¬ decide q = false := fun h e => by simp [h] at e
    simp only [e3]
    refine ⟨fun _ _ => ⟨fun g1 => ⟨fun g2 => ?_, fun g2 => ?_⟩, fun g1 => ?_⟩, fun q => no (by omega) q⟩
    · have g1 : a ≤ j := by simpa using g1
      have g2 : j < a + n := by simp at g2; omega
      have e4 : IntKind.i64.wrap ((j : Int) - (a : Int)) = ((j - a : Nat) : Int) := by rw [wrapI64 (by omega) (by omega)]; omega
      rw [if_pos ⟨g1, g2⟩] at hb
      simp only [Int.ofNat_eq_natCast, e4]
      exact ⟨fun _ _ => ⟨fun _ _ => nx _ (key v (j - a) (by omega) (by omega) hb.symm), fun q => no (by omega) q⟩, fun q => no (by omega) q⟩
    · have g2 : ¬ j < a + n := by simp at g2; omega
      rw [if_neg (by omega)] at hb
      exact ⟨fun _ _ => nx _ (hw hb.symm), fun q => no (by omega) q⟩
    · have g1 : ¬ a ≤ j := by simpa using g1
      rw [if_neg (by omega)] at hb
      exact ⟨fun _ _ => nx _ (hw hb.symm), fun q => no (by omega) q⟩
  · have : j = 32 := by simp at h; omega
    subst this
    have e : K.putTo (w : Int) (a : Int) (n : Int) (v : Int) 32 = K.bput (w : Int) (a : Int) (n : Int) (v : Int) := by
      unfold K.putTo
      rw [hK, Nat.mod_eq_of_lt (show T < 2 ^ 32 by omega), ← hK, Int.toNat_of_nonneg (by unfold K.bput; omega)]
    have e2 : K.bput (w : Int) (a : Int) (n : Int) (v : Int) < 4294967296 := by
      have : 0 ≤ K.bput (w : Int) (a : Int) (n : Int) (v : Int) := by unfold K.bput; omega
      omega
    have e3 : 0 ≤ K.bput (w : Int) (a : Int) (n : Int) (v : Int) := by unfold K.bput; omega
    rw [e, wrap32, Int.emod_eq_of_lt e3 e2]
    rfl
  
theorem c_ref01_Put : SpecOk EB 95 S_ref01_Put := spec_sigL ok_ref01_Put (n := 60) (fun (w, at_, n, v, _) => fun _ => some (L_ref01_Put w at_ n v)) fun ⟨w, at_, n, v, ⟨⟩⟩ h hok => a_ref01_Put w at_ n v (of_decide_eq_true h) (ok_int (okSL_head hok)) (ok_int (okSL_head (okSL_tail hok))) (ok_int (okSL_head (okSL_tail (okSL_tail hok)))) (ok_int (okSL_head (okSL_tail (okSL_tail (okSL_tail hok)))))
end

/-! ref09_Enter -/

def S_ref09_Enter : Spec := sig [.core, .trap] [.core] (fun (c, t, _) => K.enter c t)
noncomputable def E_ref09_Enter : Env := EB.adds [(95, S_ref01_Put), (94, S_ref01_Field)]

theorem ok_ref09_Enter : EnvOk E_ref09_Enter := okEB.adds (l := _) ⟨c_ref01_Put, c_ref01_Field, trivial⟩

theorem t_ref09_Enter (c : PCore) (t : PTrap) : evF E_ref09_Enter 60 54 (encArgs [.core, .trap] (c, t, ())) = 
 bif (BEq.beq t.cause (0 : Int)) then
 (Tree.leaf (SV.agg [(SV.arr IntKind.u32 16 c.regs), (SV.v (Value.int IntKind.u32 c.pc)), (SV.arr IntKind.u32 12 c.csr)]))
 else
 (Tree.letv (okO [(AT.i IntKind.u32)]) (K.field (List.getD c.csr 0 (0 : Int)) (0 : Int) (1 : Int)) fun x0 =>
 (Tree.letv (okO [(AT.i IntKind.u32)]) (K.field (List.getD c.csr 0 (0 : Int)) (1 : Int) (1 : Int)) fun x1 =>
 (Tree.letv (okO [(AT.i IntKind.u32)]) (K.bput (List.getD c.csr 0 (0 : Int)) (0 : Int) (4 : Int) (IntKind.wrap IntKind.u32 ((IntKind.wrap IntKind.u32 ((1 : Int) + (IntKind.wrap IntKind.u32 ((4 : Int) * x0)))) + (IntKind.wrap IntKind.u32 ((8 : Int) * x1))))) fun x2 =>
 (Tree.leaf (SV.agg [(SV.arr IntKind.u32 16 c.regs), (SV.v (Value.int IntKind.u32 (List.getD (List.set (List.set (List.set (List.set c.csr 0 x2) 1 c.pc) 2 (IntKind.wrap IntKind.u32 t.cause)) 3 t.tval) 4 (0 : Int)))), (SV.arr IntKind.u32 12 (List.set (List.set (List.set (List.set c.csr 0 x2) 1 c.pc) 2 (IntKind.wrap IntKind.u32 t.cause)) 3 t.tval))]))))) := by kernel_rfl
section
attribute [local irreducible] evF evFL evFLs evFM
theorem a_ref09_Enter (c : PCore) (t : PTrap) (ok_c : okCore c) (ok_t : okTrap t) : (evF E_ref09_Enter 60 54 (encArgs [.core, .trap] (c, t, ()))).ends fun out_ => decO [.core] out_ = some (K.enter c t) := by
  rw [t_ref09_Enter, Tree.ends_holds]
  obtain ⟨s0, s1⟩ := ok_c.csr.u32 (i := 0) (by omega)
  obtain ⟨a0, a1, a2, a3, a4, a5, a6, a7, a8, a9, a10, a11, hc⟩ := list12 ok_c.csr.1
  have hs : c.csr.getD 0 0 = a0 := by rw [hc]; rfl
  rw [hs] at s0 s1
  simp only [Tree.holds_loop, Tree.holds_fork, Tree.holds_next, if_true, Tree.holds_cond, Tree.holds_letv, Tree.holds_leaf, Tree.holds_fail, decO, decA, decTup, decMach, decCore, decTrap, decInstr, decPart, decGuest, decConf, decEvent, decVcpu, decStep, bytesS, boolS, eventsS, intsS, guestsS, vcpusS, rowS, castL, Option.bind_some, Option.map_some, Option.some.injEq, Nat.beq_refl, beq_self_eq_true, Bool.and_self, cond_true, cond_false, eq_self, beq_iff_eq, beq_eq_false_iff_ne, bne_iff_ne, bne_eq_false_iff_eq, ne_eq, decide_eq_true_eq, decide_eq_false_iff_not, ble_true, ble_false, inRange_iff, inRange_false, K.enter, hc, wrap32]
  simp only [List.set_cons_zero, List.set_cons_succ, List.getD_cons_zero, List.getD_cons_succ]
  refine ⟨fun h => ?_, fun h => ?_⟩
  · rw [if_pos h, ← hc]
  rw [if_neg h]
  unfold K.enterS
  have f0 : K.field a0 0 1 = a0 % 2 := by simp [K.field, K.pow]
  have f1 : K.field a0 1 1 = a0 / 2 % 2 := by simp [K.field, K.pow]
  have p : ∀ x v : Int, K.bput x 0 4 v = ((16 * (x.toNat / 16) + v.toNat % 16 : Nat) : Int) := fun x v => by simp [K.bput, Nat.mod_one]
  rw [f0, f1, p]
  intro _ _ _
  simp only [PCore.mk.injEq, List.cons.injEq, and_true, true_and]
  show @Eq Int _ _
  omega
  
theorem c_ref09_Enter : SpecOk EB 54 S_ref09_Enter := spec_sig ok_ref09_Enter (n := 60) fun ⟨c, t, ⟨⟩⟩ h hok => a_ref09_Enter c t (ok_core (okSL_head hok)) (ok_trap (okSL_head (okSL_tail hok)))
end

/-! ref06_By -/

def S_ref06_By : Spec := sig [.i .u32, .i .u32, .i .u32, .i .u32, .i .i64] [.i .u32, .b] (fun (base, bound, size, a, n, _) => K.reloc base bound size a n) (pre := fun (base, bound, size, a, n, _) => decide (0 ≤ n ∧ n ≤ 1099511627776))
noncomputable def E_ref06_By : Env := EB.adds []

theorem ok_ref06_By : EnvOk E_ref06_By := okEB.adds (l := _) trivial

theorem t_ref06_By (base : Int) (bound : Int) (size : Int) (a : Int) (n : Int) : evF E_ref06_By 60 159 (encArgs [.i .u32, .i .u32, .i .u32, .i .u32, .i .i64] (base, bound, size, a, n, ())) = 
 bif (decide ((IntKind.wrap IntKind.i64 ((IntKind.wrap IntKind.i64 a) + n)) > (IntKind.wrap IntKind.i64 bound))) then
 (Tree.leaf (SV.tup [(SV.v (Value.int IntKind.u32 (0 : Int))), (SV.b false)]))
 else
 (bif (decide ((IntKind.wrap IntKind.i64 ((IntKind.wrap IntKind.i64 base) + (IntKind.wrap IntKind.i64 ((IntKind.wrap IntKind.i64 a) + n)))) > (IntKind.wrap IntKind.i64 size))) then
 (Tree.leaf (SV.tup [(SV.v (Value.int IntKind.u32 (0 : Int))), (SV.b false)]))
 else
 (Tree.leaf (SV.tup [(SV.v (Value.int IntKind.u32 (IntKind.wrap IntKind.u32 (IntKind.wrap IntKind.i64 ((IntKind.wrap IntKind.i64 base) + (IntKind.wrap IntKind.i64 a)))))), (SV.b true)]))) := by kernel_rfl
section
attribute [local irreducible] evF evFL evFLs evFM
theorem a_ref06_By (base : Int) (bound : Int) (size : Int) (a : Int) (n : Int) (hpre : 0 ≤ n ∧ n ≤ 1099511627776) (ok_base : okI .u32 base) (ok_bound : okI .u32 bound) (ok_size : okI .u32 size) (ok_a : okI .u32 a) (ok_n : okI .i64 n) : (evF E_ref06_By 60 159 (encArgs [.i .u32, .i .u32, .i .u32, .i .u32, .i .i64] (base, bound, size, a, n, ()))).ends fun out_ => decO [.i .u32, .b] out_ = some (K.reloc base bound size a n) := by
  rw [t_ref06_By, Tree.ends_holds]
  obtain ⟨a0, a1⟩ := okI_u32 ok_a
  obtain ⟨b0, b1⟩ := okI_u32 ok_base
  obtain ⟨c0, c1⟩ := okI_u32 ok_bound
  obtain ⟨d0, d1⟩ := okI_u32 ok_size
  have e1 : IntKind.i64.wrap a = a := wrapI64 (by omega) (by omega)
  have e3 : IntKind.i64.wrap size = size := wrapI64 (by omega) (by omega)
  have e4 : IntKind.i64.wrap (a + n) = a + n := wrapI64 (by omega) (by omega)
  have e5 : IntKind.i64.wrap base = base := wrapI64 (by omega) (by omega)
  have e6 : IntKind.i64.wrap bound = bound := wrapI64 (by omega) (by omega)
  have e7 : IntKind.i64.wrap (base + (a + n)) = base + (a + n) := wrapI64 (by omega) (by omega)
  have e8 : IntKind.i64.wrap (base + a) = base + a := wrapI64 (by omega) (by omega)
  simp only [Tree.holds_loop, Tree.holds_fork, Tree.holds_next, if_true, Tree.holds_cond, Tree.holds_letv, Tree.holds_leaf, Tree.holds_fail, decO, decA, decTup, decMach, decCore, decTrap, decInstr, decPart, decGuest, decConf, decEvent, decVcpu, decStep, bytesS, boolS, eventsS, intsS, guestsS, vcpusS, rowS, castL, Option.bind_some, Option.map_some, Option.some.injEq, Nat.beq_refl, beq_self_eq_true, Bool.and_self, cond_true, cond_false, eq_self, beq_iff_eq, beq_eq_false_iff_ne, bne_iff_ne, bne_eq_false_iff_eq, ne_eq, decide_eq_true_eq, decide_eq_false_iff_not, ble_true, ble_false, inRange_iff, inRange_false, K.reloc, e1, e3, e4, e5, e6, e7, e8]
  repeat' (first | refine drop_ok ?_ | intro _ | with_reducible apply And.intro)
  all_goals first | (rw [if_neg (by omega)]; done) | (rw [if_pos (by omega), show IntKind.u32.wrap (base + a) = base + a by rw [wrap32]; omega])
  
theorem c_ref06_By : SpecOk EB 159 S_ref06_By := spec_sig ok_ref06_By (n := 60) fun ⟨base, bound, size, a, n, ⟨⟩⟩ h hok => a_ref06_By base bound size a n (of_decide_eq_true h) (ok_int (okSL_head hok)) (ok_int (okSL_head (okSL_tail hok))) (ok_int (okSL_head (okSL_tail (okSL_tail hok)))) (ok_int (okSL_head (okSL_tail (okSL_tail (okSL_tail hok))))) (ok_int (okSL_head (okSL_tail (okSL_tail (okSL_tail (okSL_tail hok))))))
end

/-! ref06_Super -/

def S_ref06_Super : Spec := sig [.core] [.b] (fun (c, _) => K.super c)
noncomputable def E_ref06_Super : Env := EB.adds []

theorem ok_ref06_Super : EnvOk E_ref06_Super := okEB.adds (l := _) trivial

theorem t_ref06_Super (c : PCore) : evF E_ref06_Super 60 104 (encArgs [.core] (c, ())) = 
 bif (BEq.beq (Int.tmod (List.getD c.csr 0 (0 : Int)) (2 : Int)) (1 : Int)) then
 (Tree.leaf (SV.b true))
 else
 (Tree.leaf (SV.b false)) := by kernel_rfl
section
attribute [local irreducible] evF evFL evFLs evFM
theorem a_ref06_Super (c : PCore) (ok_c : okCore c) : (evF E_ref06_Super 60 104 (encArgs [.core] (c, ()))).ends fun out_ => decO [.b] out_ = some (K.super c) := by
  rw [t_ref06_Super, Tree.ends_holds]
  obtain ⟨s0, s1⟩ := ok_c.csr.u32 (i := 0) (by omega)
  simp only [Tree.holds_loop, Tree.holds_fork, Tree.holds_next, if_true, Tree.holds_cond, Tree.holds_letv, Tree.holds_leaf, Tree.holds_fail, decO, decA, decTup, decMach, decCore, decTrap, decInstr, decPart, decGuest, decConf, decEvent, decVcpu, decStep, bytesS, boolS, eventsS, intsS, guestsS, vcpusS, rowS, castL, Option.bind_some, Option.map_some, Option.some.injEq, Nat.beq_refl, beq_self_eq_true, Bool.and_self, cond_true, cond_false, eq_self, beq_iff_eq, beq_eq_false_iff_ne, bne_iff_ne, bne_eq_false_iff_eq, ne_eq, decide_eq_true_eq, decide_eq_false_iff_not, ble_true, ble_false, inRange_iff, inRange_false, K.super, Int.tmod_eq_emod_of_nonneg s0]
  repeat' (first | refine drop_ok ?_ | intro _ | with_reducible apply And.intro)
  all_goals simp_all
  
theorem c_ref06_Super : SpecOk EB 104 S_ref06_Super := spec_sig ok_ref06_Super (n := 60) fun ⟨c, ⟨⟩⟩ h hok => a_ref06_Super c (ok_core (okSL_head hok))
end

/-! ref06_At -/

def S_ref06_At : Spec := sig [.core, .i .u32, .i .u32, .i .i64] [.i .u32, .b] (fun (c, size, a, n, _) => K.trans c size a n) (pre := fun (c, size, a, n, _) => decide (0 ≤ n ∧ n ≤ 1099511627776))
noncomputable def E_ref06_At : Env := EB.adds [(159, S_ref06_By), (104, S_ref06_Super)]

theorem ok_ref06_At : EnvOk E_ref06_At := okEB.adds (l := _) ⟨c_ref06_By, c_ref06_Super, trivial⟩

theorem t_ref06_At (c : PCore) (size : Int) (a : Int) (n : Int) : evF E_ref06_At 60 147 (encArgs [.core, .i .u32, .i .u32, .i .i64] (c, size, a, n, ())) = 
 Tree.letv (okO [AT.b]) (K.super c) fun x0 =>
 (bif x0 then
 (bif (decide (And ((0 : Int) ≤ n) (n ≤ (1099511627776 : Int)))) then
 (Tree.letv (okO [(AT.i IntKind.u32), AT.b]) (K.reloc (0 : Int) size size a n) fun x1 =>
 (bif x1.snd then
 (Tree.leaf (SV.tup [(SV.v (Value.int IntKind.u32 x1.fst)), (SV.b true)]))
 else
 (Tree.leaf (SV.tup [(SV.v (Value.int IntKind.u32 x1.fst)), (SV.b false)]))))
 else
 (Tree.fail))
 else
 (bif (decide (And ((0 : Int) ≤ n) (n ≤ (1099511627776 : Int)))) then
 (Tree.letv (okO [(AT.i IntKind.u32), AT.b]) (K.reloc (List.getD c.csr 5 (0 : Int)) (List.getD c.csr 6 (0 : Int)) size a n) fun x1 =>
 (bif x1.snd then
 (Tree.leaf (SV.tup [(SV.v (Value.int IntKind.u32 x1.fst)), (SV.b true)]))
 else
 (Tree.leaf (SV.tup [(SV.v (Value.int IntKind.u32 x1.fst)), (SV.b false)]))))
 else
 (Tree.fail))) := by kernel_rfl
section
attribute [local irreducible] evF evFL evFLs evFM
theorem a_ref06_At (c : PCore) (size : Int) (a : Int) (n : Int) (hpre : 0 ≤ n ∧ n ≤ 1099511627776) (ok_c : okCore c) (ok_size : okI .u32 size) (ok_a : okI .u32 a) (ok_n : okI .i64 n) : (evF E_ref06_At 60 147 (encArgs [.core, .i .u32, .i .u32, .i .i64] (c, size, a, n, ()))).ends fun out_ => decO [.i .u32, .b] out_ = some (K.trans c size a n) := by
  rw [t_ref06_At, Tree.ends_holds]
  simp only [Tree.holds_loop, Tree.holds_fork, Tree.holds_next, if_true, Tree.holds_cond, Tree.holds_letv, Tree.holds_leaf, Tree.holds_fail, decO, decA, decTup, decMach, decCore, decTrap, decInstr, decPart, decGuest, decConf, decEvent, decVcpu, decStep, bytesS, boolS, eventsS, intsS, guestsS, vcpusS, rowS, castL, Option.bind_some, Option.map_some, Option.some.injEq, Nat.beq_refl, beq_self_eq_true, Bool.and_self, cond_true, cond_false, eq_self, beq_iff_eq, beq_eq_false_iff_ne, bne_iff_ne, bne_eq_false_iff_eq, ne_eq, decide_eq_true_eq, decide_eq_false_iff_not, ble_true, ble_false, inRange_iff, inRange_false, K.trans]
  repeat' (first | refine drop_ok ?_ | intro _ | with_reducible apply And.intro)
  all_goals first | omega | (simp_all; done) | (simp_all; apply Prod.ext <;> simp_all; done)
  
theorem c_ref06_At : SpecOk EB 147 S_ref06_At := spec_sig ok_ref06_At (n := 60) fun ⟨c, size, a, n, ⟨⟩⟩ h hok => a_ref06_At c size a n (of_decide_eq_true h) (ok_core (okSL_head hok)) (ok_int (okSL_head (okSL_tail hok))) (ok_int (okSL_head (okSL_tail (okSL_tail hok)))) (ok_int (okSL_head (okSL_tail (okSL_tail (okSL_tail hok)))))
end

/-! ref10_Cell -/

def S_ref10_Cell : Spec := sig [.mach, .i .u32, .i .i64] [.i .u32, .trap] (fun (m, a, n, _) => K.cell m a n) (pre := fun (m, a, n, _) => decide (n = 1 ∨ n = 4))
noncomputable def E_ref10_Cell : Env := EB.adds [(147, S_ref06_At)]

theorem ok_ref10_Cell : EnvOk E_ref10_Cell := okEB.adds (l := _) ⟨c_ref06_At, trivial⟩

theorem t_ref10_Cell (m : PMach) (a : Int) (n : Int) : evF E_ref10_Cell 60 134 (encArgs [.mach, .i .u32, .i .i64] (m, a, n, ())) = 
 bif (BEq.beq n (4 : Int)) then
 (bif (bne (Int.tmod a (4 : Int)) (0 : Int)) then
 (Tree.leaf (SV.tup [(SV.v (Value.int IntKind.u32 (0 : Int))), (SV.agg [(SV.v (Value.int IntKind.i64 (4 : Int))), (SV.v (Value.int IntKind.u32 a))])]))
 else
 (bif (decide (And ((0 : Int) ≤ n) (n ≤ (1099511627776 : Int)))) then
 (Tree.letv (okO [(AT.i IntKind.u32), AT.b]) (K.trans m.core (IntKind.wrap IntKind.u32 (Int.ofNat (List.length m.mem))) a n) fun x0 =>
 (bif x0.snd then
 (Tree.leaf (SV.tup [(SV.v (Value.int IntKind.u32 x0.fst)), (SV.agg [(SV.v (Value.int IntKind.i64 (0 : Int))), (SV.v (Value.int IntKind.u32 (0 : Int)))])]))
 else
 (Tree.leaf (SV.tup [(SV.v (Value.int IntKind.u32 (0 : Int))), (SV.agg [(SV.v (Value.int IntKind.i64 (3 : Int))), (SV.v (Value.int IntKind.u32 a))])]))))
 else
 (Tree.fail)))
 else
 (bif (decide (And ((0 : Int) ≤ n) (n ≤ (1099511627776 : Int)))) then
 (Tree.letv (okO [(AT.i IntKind.u32), AT.b]) (K.trans m.core (IntKind.wrap IntKind.u32 (Int.ofNat (List.length m.mem))) a n) fun x0 =>
 (bif x0.snd then
 (Tree.leaf (SV.tup [(SV.v (Value.int IntKind.u32 x0.fst)), (SV.agg [(SV.v (Value.int IntKind.i64 (0 : Int))), (SV.v (Value.int IntKind.u32 (0 : Int)))])]))
 else
 (Tree.leaf (SV.tup [(SV.v (Value.int IntKind.u32 (0 : Int))), (SV.agg [(SV.v (Value.int IntKind.i64 (3 : Int))), (SV.v (Value.int IntKind.u32 a))])]))))
 else
 (Tree.fail)) := by kernel_rfl
section
attribute [local irreducible] evF evFL evFLs evFM
theorem a_ref10_Cell (m : PMach) (a : Int) (n : Int) (hpre : n = 1 ∨ n = 4) (ok_m : okMach m) (ok_a : okI .u32 a) (ok_n : okI .i64 n) : (evF E_ref10_Cell 60 134 (encArgs [.mach, .i .u32, .i .i64] (m, a, n, ()))).ends fun out_ => decO [.i .u32, .trap] out_ = some (K.cell m a n) := by
  rw [t_ref10_Cell, Tree.ends_holds]
  obtain ⟨a0, a1⟩ := okI_u32 ok_a
  have hn : 1 ≤ n ∧ n ≤ 4 := by omega
  have e2 : Int.tmod a 4 = a % 4 := Int.tmod_eq_emod_of_nonneg a0
  have e3 : IntKind.u32.wrap (m.mem.length : Int) = (m.mem.length : Int) % 4294967296 := wrap32 _
  simp only [Tree.holds_loop, Tree.holds_fork, Tree.holds_next, if_true, Tree.holds_cond, Tree.holds_letv, Tree.holds_leaf, Tree.holds_fail, decO, decA, decTup, decMach, decCore, decTrap, decInstr, decPart, decGuest, decConf, decEvent, decVcpu, decStep, bytesS, boolS, eventsS, intsS, guestsS, vcpusS, rowS, castL, Option.bind_some, Option.map_some, Option.some.injEq, Nat.beq_refl, beq_self_eq_true, Bool.and_self, cond_true, cond_false, eq_self, beq_iff_eq, beq_eq_false_iff_ne, bne_iff_ne, bne_eq_false_iff_eq, ne_eq, decide_eq_true_eq, decide_eq_false_iff_not, ble_true, ble_false, inRange_iff, inRange_false, Int.ofNat_eq_natCast, e2, e3, K.cell]
  rcases hpre with h | h <;> subst h
  · have : a % 1 = 0 := by omega
    repeat' (first | refine drop_ok ?_ | intro _ | with_reducible apply And.intro)
    all_goals first | omega | (simp_all; done)
  · repeat' (first | refine drop_ok ?_ | intro _ | with_reducible apply And.intro)
    all_goals first | omega | (simp_all; done)
  
theorem c_ref10_Cell : SpecOk EB 134 S_ref10_Cell := spec_sig ok_ref10_Cell (n := 60) fun ⟨m, a, n, ⟨⟩⟩ h hok => a_ref10_Cell m a n (of_decide_eq_true h) (ok_mach (okSL_head hok)) (ok_int (okSL_head (okSL_tail hok))) (ok_int (okSL_head (okSL_tail (okSL_tail hok))))
end

/-! ref05_There -/

def S_ref05_There : Spec := sig [.i .i64, .i .u32, .i .i64] [.b] (fun (size, a, n, _) => K.inR size a n) (pre := fun (size, a, n, _) => decide (0 ≤ n ∧ n ≤ 1099511627776 ∧ 0 ≤ size))
noncomputable def E_ref05_There : Env := EB.adds []

theorem ok_ref05_There : EnvOk E_ref05_There := okEB.adds (l := _) trivial

theorem t_ref05_There (size : Int) (a : Int) (n : Int) : evF E_ref05_There 60 58 (encArgs [.i .i64, .i .u32, .i .i64] (size, a, n, ())) = 
 bif (decide ((IntKind.wrap IntKind.i64 a) ≤ (IntKind.wrap IntKind.i64 (size - n)))) then
 (Tree.leaf (SV.b true))
 else
 (Tree.leaf (SV.b false)) := by kernel_rfl
section
attribute [local irreducible] evF evFL evFLs evFM
theorem a_ref05_There (size : Int) (a : Int) (n : Int) (hpre : 0 ≤ n ∧ n ≤ 1099511627776 ∧ 0 ≤ size) (ok_size : okI .i64 size) (ok_a : okI .u32 a) (ok_n : okI .i64 n) : (evF E_ref05_There 60 58 (encArgs [.i .i64, .i .u32, .i .i64] (size, a, n, ()))).ends fun out_ => decO [.b] out_ = some (K.inR size a n) := by
  rw [t_ref05_There, Tree.ends_holds]
  obtain ⟨a0, a1⟩ := okI_u32 ok_a
  obtain ⟨s0, s1⟩ := okI_i64 ok_size
  have e1 : IntKind.i64.wrap a = a := wrapI64 (by omega) (by omega)
  have e2 : IntKind.i64.wrap (size - n) = size - n := wrapI64 (by omega) (by omega)
  simp only [Tree.holds_loop, Tree.holds_fork, Tree.holds_next, if_true, Tree.holds_cond, Tree.holds_letv, Tree.holds_leaf, Tree.holds_fail, decO, decA, decTup, decMach, decCore, decTrap, decInstr, decPart, decGuest, decConf, decEvent, decVcpu, decStep, bytesS, boolS, eventsS, intsS, guestsS, vcpusS, rowS, castL, Option.bind_some, Option.map_some, Option.some.injEq, Nat.beq_refl, beq_self_eq_true, Bool.and_self, cond_true, cond_false, eq_self, beq_iff_eq, beq_eq_false_iff_ne, bne_iff_ne, bne_eq_false_iff_eq, ne_eq, decide_eq_true_eq, decide_eq_false_iff_not, ble_true, ble_false, inRange_iff, inRange_false, K.inR, e1, e2]
  repeat' (first | refine drop_ok ?_ | intro _ | with_reducible apply And.intro)
  all_goals (simp; omega)
  
theorem c_ref05_There : SpecOk EB 58 S_ref05_There := spec_sig ok_ref05_There (n := 60) fun ⟨size, a, n, ⟨⟩⟩ h hok => a_ref05_There size a n (of_decide_eq_true h) (ok_int (okSL_head hok)) (ok_int (okSL_head (okSL_tail hok))) (ok_int (okSL_head (okSL_tail (okSL_tail hok))))
end

/-! ref05_Load -/

def S_ref05_Load : Spec := sig [.rd .u8, .i .u32, .i .i64] [.i .u32, .b] (fun (m, a, n, _) => if K.inR m.length a n = true then (K.ld m a n, true) else (0, false)) (pre := fun (m, a, n, _) => decide (n = 1 ∨ n = 4))
noncomputable def E_ref05_Load : Env := EB.adds [(58, S_ref05_There)]

theorem ok_ref05_Load : EnvOk E_ref05_Load := okEB.adds (l := _) ⟨c_ref05_There, trivial⟩
theorem t1_c_ref05_Load (m : List Int) (a : Int) : evF E_ref05_Load 60 135 [.rd .u8 m, .v (.int .u32 a), .v (.int .i64 1)] = 
  bif (decide (And ((0 : Int) ≤ (1 : Int)) (And ((1 : Int) ≤ (1099511627776 : Int)) ((0 : Int) ≤ (Int.ofNat (List.length m)))))) then
    (Tree.letv (okO [AT.b]) (K.inR (Int.ofNat (List.length m)) a (1 : Int)) fun x0 =>
    (bif x0 then
      (bif (inRange (IntKind.wrap IntKind.i64 ((IntKind.wrap IntKind.i64 a) + (0 : Int))) (List.length m)) then
        (Tree.leaf (SV.tup [(SV.v (Value.int IntKind.u32 (IntKind.wrap IntKind.u32 ((0 : Int) + (IntKind.wrap IntKind.u32 (List.getD m (Int.toNat (IntKind.wrap IntKind.i64 ((IntKind.wrap IntKind.i64 a) + (0 : Int)))) (0 : Int))))))), (SV.b true)]))
      else
        (Tree.fail))
    else
      (Tree.leaf (SV.tup [(SV.v (Value.int IntKind.u32 (0 : Int))), (SV.b false)]))))
  else
    (Tree.fail) := by kernel_rfl
theorem t4_c_ref05_Load (m : List Int) (a : Int) : evF E_ref05_Load 60 135 [.rd .u8 m, .v (.int .u32 a), .v (.int .i64 4)] = 
  bif (decide (And ((0 : Int) ≤ (4 : Int)) (And ((4 : Int) ≤ (1099511627776 : Int)) ((0 : Int) ≤ (Int.ofNat (List.length m)))))) then
    (Tree.letv (okO [AT.b]) (K.inR (Int.ofNat (List.length m)) a (4 : Int)) fun x0 =>
    (bif x0 then
      (bif (inRange (IntKind.wrap IntKind.i64 ((IntKind.wrap IntKind.i64 a) + (3 : Int))) (List.length m)) then
        (bif (inRange (IntKind.wrap IntKind.i64 ((IntKind.wrap IntKind.i64 a) + (2 : Int))) (List.length m)) then
          (bif (inRange (IntKind.wrap IntKind.i64 ((IntKind.wrap IntKind.i64 a) + (1 : Int))) (List.length m)) then
            (bif (inRange (IntKind.wrap IntKind.i64 ((IntKind.wrap IntKind.i64 a) + (0 : Int))) (List.length m)) then
              (Tree.leaf (SV.tup [(SV.v (Value.int IntKind.u32 (IntKind.wrap IntKind.u32 ((IntKind.wrap IntKind.u32 ((IntKind.wrap IntKind.u32 ((IntKind.wrap IntKind.u32 ((IntKind.wrap IntKind.u32 ((IntKind.wrap IntKind.u32 ((IntKind.wrap IntKind.u32 ((0 : Int) + (IntKind.wrap IntKind.u32 (List.getD m (Int.toNat (IntKind.wrap IntKind.i64 ((IntKind.wrap IntKind.i64 a) + (3 : Int)))) (0 : Int))))) * (256 : Int))) + (IntKind.wrap IntKind.u32 (List.getD m (Int.toNat (IntKind.wrap IntKind.i64 ((IntKind.wrap IntKind.i64 a) + (2 : Int)))) (0 : Int))))) * (256 : Int))) + (IntKind.wrap IntKind.u32 (List.getD m (Int.toNat (IntKind.wrap IntKind.i64 ((IntKind.wrap IntKind.i64 a) + (1 : Int)))) (0 : Int))))) * (256 : Int))) + (IntKind.wrap IntKind.u32 (List.getD m (Int.toNat (IntKind.wrap IntKind.i64 ((IntKind.wrap IntKind.i64 a) + (0 : Int)))) (0 : Int))))))), (SV.b true)]))
            else
              (Tree.fail))
          else
            (Tree.fail))
        else
          (Tree.fail))
      else
        (Tree.fail))
    else
      (Tree.leaf (SV.tup [(SV.v (Value.int IntKind.u32 (0 : Int))), (SV.b false)]))))
  else
    (Tree.fail) := by kernel_rfl
theorem a1_c_ref05_Load (m : List Int) (a : Int) (ok_m : okBytes m) (ok_a : okI .u32 a) : (evF E_ref05_Load 60 135 [.rd .u8 m, .v (.int .u32 a), .v (.int .i64 1)]).ends fun out_ => decO [.i .u32, .b] out_ = some (if K.inR m.length a 1 = true then (K.ld m a 1, true) else (0, false)) := by
  rw [t1_c_ref05_Load, Tree.ends_holds]
  obtain ⟨a0, a1⟩ := okI_u32 ok_a
  have b0 := byte_at ok_m a.toNat
  have ew : IntKind.i64.wrap a = a := wrapI64 (by omega) (by omega)
  have i0 : IntKind.i64.wrap (a + 0) = a := by rw [wrapI64 (by omega) (by omega)]; omega
  have v0 : (0 * 256 % 4294967296 + m.getD a.toNat 0 % 4294967296) % 4294967296 = m.getD a.toNat 0 := by omega
  have v1 : (0 + m.getD a.toNat 0 % 4294967296) % 4294967296 = m.getD a.toNat 0 := by omega
  simp only [Tree.holds_loop, Tree.holds_fork, Tree.holds_next, if_true, Tree.holds_cond, Tree.holds_letv, Tree.holds_leaf, Tree.holds_fail, decO, decA, decTup, decMach, decCore, decTrap, decInstr, decPart, decGuest, decConf, decEvent, decVcpu, decStep, bytesS, boolS, eventsS, intsS, guestsS, vcpusS, rowS, castL, Option.bind_some, Option.map_some, Option.some.injEq, Nat.beq_refl, beq_self_eq_true, Bool.and_self, cond_true, cond_false, eq_self, beq_iff_eq, beq_eq_false_iff_ne, bne_iff_ne, bne_eq_false_iff_eq, ne_eq, decide_eq_true_eq, decide_eq_false_iff_not, ble_true, ble_false, inRange_iff, inRange_false, Int.ofNat_eq_natCast, ew, i0, wrap32, v0, v1]
  repeat' (first | refine drop_ok ?_ | intro _ | with_reducible apply And.intro)
  all_goals first | (rw [if_pos (by assumption)]; first | rfl | (congr 2; done) | (simp [K.ld]; omega)) | (rw [if_neg (by simp_all)]) | omega | (simp_all [K.inR]; omega)
theorem a4_c_ref05_Load (m : List Int) (a : Int) (ok_m : okBytes m) (ok_a : okI .u32 a) : (evF E_ref05_Load 60 135 [.rd .u8 m, .v (.int .u32 a), .v (.int .i64 4)]).ends fun out_ => decO [.i .u32, .b] out_ = some (if K.inR m.length a 4 = true then (K.ld m a 4, true) else (0, false)) := by
  rw [t4_c_ref05_Load, Tree.ends_holds]
  obtain ⟨a0, a1⟩ := okI_u32 ok_a
  have ew : IntKind.i64.wrap a = a := wrapI64 (by omega) (by omega)
  have i0 : IntKind.i64.wrap (a + 0) = a := by rw [wrapI64 (by omega) (by omega)]; omega
  have i1 : IntKind.i64.wrap (a + 1) = a + 1 := wrapI64 (by omega) (by omega)
  have i2 : IntKind.i64.wrap (a + 2) = a + 2 := wrapI64 (by omega) (by omega)
  have i3 : IntKind.i64.wrap (a + 3) = a + 3 := wrapI64 (by omega) (by omega)
  have n1 : (a + 1).toNat = a.toNat + 1 := by omega
  have n2 : (a + 2).toNat = a.toNat + 2 := by omega
  have n3 : (a + 3).toNat = a.toNat + 3 := by omega
  obtain ⟨p0, q0⟩ := byte_at ok_m a.toNat
  obtain ⟨p1, q1⟩ := byte_at ok_m (a.toNat + 1)
  obtain ⟨p2, q2⟩ := byte_at ok_m (a.toNat + 2)
  obtain ⟨p3, q3⟩ := byte_at ok_m (a.toNat + 3)
  have fin : ∀ x : Int, x = m.getD a.toNat 0 + 256 * m.getD (a.toNat + 1) 0 + 65536 * m.getD (a.toNat + 2) 0 + 16777216 * m.getD (a.toNat + 3) 0 → (x, true) = (K.ld m a 4, true) := fun x h => by rw [h]; rfl
  simp only [Tree.holds_loop, Tree.holds_fork, Tree.holds_next, if_true, Tree.holds_cond, Tree.holds_letv, Tree.holds_leaf, Tree.holds_fail, decO, decA, decTup, decMach, decCore, decTrap, decInstr, decPart, decGuest, decConf, decEvent, decVcpu, decStep, bytesS, boolS, eventsS, intsS, guestsS, vcpusS, rowS, castL, Option.bind_some, Option.map_some, Option.some.injEq, Nat.beq_refl, beq_self_eq_true, Bool.and_self, cond_true, cond_false, eq_self, beq_iff_eq, beq_eq_false_iff_ne, bne_iff_ne, bne_eq_false_iff_eq, ne_eq, decide_eq_true_eq, decide_eq_false_iff_not, ble_true, ble_false, inRange_iff, inRange_false, Int.ofNat_eq_natCast, ew, i0, i1, i2, i3, n1, n2, n3, wrap32]
  repeat' (first | refine drop_ok ?_ | intro _ | with_reducible apply And.intro)
  all_goals first | (rw [if_pos (by assumption)]; apply fin; omega) | (rw [if_neg (by simp_all)]) | omega | (simp_all [K.inR]; omega)
theorem c_ref05_Load : SpecOk EB 135 S_ref05_Load := spec_sig ok_ref05_Load (n := 60) fun ⟨m, a, n, ⟨⟩⟩ h hok => by
  have h := of_decide_eq_true h
  have o1 := ok_bytes (okSL_head hok)
  have o2 := ok_int (okSL_head (okSL_tail hok))
  rcases h with h | h
  · have h : n = 1 := h
    subst h; exact a1_c_ref05_Load m a o1 o2
  · have h : n = 4 := h
    subst h; exact a4_c_ref05_Load m a o1 o2


/-! ref10_Load -/

def S_ref10_Load : Spec := sig [.mach, .i .u32, .i .i64] [.i .u32, .trap] (fun (m, a, n, _) => K.load m a n) (pre := fun (m, a, n, _) => decide (n = 1 ∨ n = 4))
noncomputable def E_ref10_Load : Env := EB.adds [(134, S_ref10_Cell), (135, S_ref05_Load)]

theorem ok_ref10_Load : EnvOk E_ref10_Load := okEB.adds (l := _) ⟨c_ref10_Cell, c_ref05_Load, trivial⟩

theorem t_ref10_Load (m : PMach) (a : Int) (n : Int) : evF E_ref10_Load 60 102 (encArgs [.mach, .i .u32, .i .i64] (m, a, n, ())) = 
 bif (decide (Or (n = (1 : Int)) (n = (4 : Int)))) then
 (Tree.letv (okO [(AT.i IntKind.u32), AT.trap]) (K.cell m a n) fun x0 =>
 (bif (bne x0.snd.cause (0 : Int)) then
 (Tree.leaf (SV.tup [(SV.v (Value.int IntKind.u32 (0 : Int))), (SV.agg [(SV.v (Value.int IntKind.i64 x0.snd.cause)), (SV.v (Value.int IntKind.u32 x0.snd.tval))])]))
 else
 (bif (decide (Or (n = (1 : Int)) (n = (4 : Int)))) then
 (Tree.letv (okO [(AT.i IntKind.u32), AT.b]) (if ((K.inR (Int.ofNat (List.length m.mem)) x0.fst n) = true) then ((K.ld m.mem x0.fst n), true) else ((0 : Int), false)) fun x1 =>
 (bif x1.snd then
 (Tree.leaf (SV.tup [(SV.v (Value.int IntKind.u32 x1.fst)), (SV.agg [(SV.v (Value.int IntKind.i64 x0.snd.cause)), (SV.v (Value.int IntKind.u32 x0.snd.tval))])]))
 else
 (Tree.leaf (SV.tup [(SV.v (Value.int IntKind.u32 x1.fst)), (SV.agg [(SV.v (Value.int IntKind.i64 x0.snd.cause)), (SV.v (Value.int IntKind.u32 x0.snd.tval))])]))))
 else
 (Tree.fail))))
 else
 (Tree.fail) := by kernel_rfl
section
attribute [local irreducible] evF evFL evFLs evFM
theorem a_ref10_Load (m : PMach) (a : Int) (n : Int) (hpre : n = 1 ∨ n = 4) (ok_m : okMach m) (ok_a : okI .u32 a) (ok_n : okI .i64 n) : (evF E_ref10_Load 60 102 (encArgs [.mach, .i .u32, .i .i64] (m, a, n, ()))).ends fun out_ => decO [.i .u32, .trap] out_ = some (K.load m a n) := by
  rw [t_ref10_Load, Tree.ends_holds]
  obtain ⟨a0, a1⟩ := okI_u32 ok_a
  have hr := fun h => cell_range ok_m.core (a := a) (n := n) a0 (by omega) h
  simp only [Tree.holds_loop, Tree.holds_fork, Tree.holds_next, if_true, Tree.holds_cond, Tree.holds_letv, Tree.holds_leaf, Tree.holds_fail, decO, decA, decTup, decMach, decCore, decTrap, decInstr, decPart, decGuest, decConf, decEvent, decVcpu, decStep, bytesS, boolS, eventsS, intsS, guestsS, vcpusS, rowS, castL, Option.bind_some, Option.map_some, Option.some.injEq, Nat.beq_refl, beq_self_eq_true, Bool.and_self, cond_true, cond_false, eq_self, beq_iff_eq, beq_eq_false_iff_ne, bne_iff_ne, bne_eq_false_iff_eq, ne_eq, decide_eq_true_eq, decide_eq_false_iff_not, ble_true, ble_false, inRange_iff, inRange_false, Int.ofNat_eq_natCast, K.load]
  by_cases h : (K.cell m a n).2.cause = 0
  · have ht := cell_zero h
    have hi : K.inR m.mem.length (K.cell m a n).1 n = true := by have := hr h; simp only [K.inR, decide_eq_true_eq]; omega
    simp only [h, ht, hi, if_true]
    simp [hpre]
  · simp [h, hpre]
  
theorem c_ref10_Load : SpecOk EB 102 S_ref10_Load := spec_sig ok_ref10_Load (n := 60) fun ⟨m, a, n, ⟨⟩⟩ h hok => a_ref10_Load m a n (of_decide_eq_true h) (ok_mach (okSL_head hok)) (ok_int (okSL_head (okSL_tail hok))) (ok_int (okSL_head (okSL_tail (okSL_tail hok))))
end

/-! ref02_Form -/

def S_ref02_Form : Spec := sig [.i .i64] [.i .i64] (fun (op, _) => K.form op)
noncomputable def E_ref02_Form : Env := EB.adds []

theorem ok_ref02_Form : EnvOk E_ref02_Form := okEB.adds (l := _) trivial

theorem t_ref02_Form (op : Int) : evF E_ref02_Form 60 57 (encArgs [.i .i64] (op, ())) = 
 bif (BEq.beq op (1 : Int)) then
 (Tree.leaf (SV.v (Value.int IntKind.i64 (1 : Int))))
 else
 (bif (BEq.beq op (2 : Int)) then
 (Tree.leaf (SV.v (Value.int IntKind.i64 (1 : Int))))
 else
 (bif (BEq.beq op (3 : Int)) then
 (Tree.leaf (SV.v (Value.int IntKind.i64 (1 : Int))))
 else
 (bif (BEq.beq op (4 : Int)) then
 (Tree.leaf (SV.v (Value.int IntKind.i64 (1 : Int))))
 else
 (bif (BEq.beq op (5 : Int)) then
 (Tree.leaf (SV.v (Value.int IntKind.i64 (1 : Int))))
 else
 (bif (BEq.beq op (6 : Int)) then
 (Tree.leaf (SV.v (Value.int IntKind.i64 (1 : Int))))
 else
 (bif (BEq.beq op (7 : Int)) then
 (Tree.leaf (SV.v (Value.int IntKind.i64 (1 : Int))))
 else
 (bif (BEq.beq op (8 : Int)) then
 (Tree.leaf (SV.v (Value.int IntKind.i64 (1 : Int))))
 else
 (bif (BEq.beq op (9 : Int)) then
 (Tree.leaf (SV.v (Value.int IntKind.i64 (2 : Int))))
 else
 (bif (BEq.beq op (11 : Int)) then
 (Tree.leaf (SV.v (Value.int IntKind.i64 (2 : Int))))
 else
 (bif (BEq.beq op (12 : Int)) then
 (Tree.leaf (SV.v (Value.int IntKind.i64 (2 : Int))))
 else
 (bif (BEq.beq op (13 : Int)) then
 (Tree.leaf (SV.v (Value.int IntKind.i64 (2 : Int))))
 else
 (bif (BEq.beq op (14 : Int)) then
 (Tree.leaf (SV.v (Value.int IntKind.i64 (2 : Int))))
 else
 (bif (BEq.beq op (15 : Int)) then
 (Tree.leaf (SV.v (Value.int IntKind.i64 (2 : Int))))
 else
 (bif (BEq.beq op (16 : Int)) then
 (Tree.leaf (SV.v (Value.int IntKind.i64 (2 : Int))))
 else
 (bif (BEq.beq op (17 : Int)) then
 (Tree.leaf (SV.v (Value.int IntKind.i64 (2 : Int))))
 else
 (bif (BEq.beq op (19 : Int)) then
 (Tree.leaf (SV.v (Value.int IntKind.i64 (2 : Int))))
 else
 (bif (BEq.beq op (10 : Int)) then
 (Tree.leaf (SV.v (Value.int IntKind.i64 (3 : Int))))
 else
 (bif (BEq.beq op (18 : Int)) then
 (Tree.leaf (SV.v (Value.int IntKind.i64 (3 : Int))))
 else
 (bif (BEq.beq op (20 : Int)) then
 (Tree.leaf (SV.v (Value.int IntKind.i64 (4 : Int))))
 else
 (bif (BEq.beq op (23 : Int)) then
 (Tree.leaf (SV.v (Value.int IntKind.i64 (4 : Int))))
 else
 (bif (BEq.beq op (24 : Int)) then
 (Tree.leaf (SV.v (Value.int IntKind.i64 (4 : Int))))
 else
 (bif (BEq.beq op (21 : Int)) then
 (Tree.leaf (SV.v (Value.int IntKind.i64 (5 : Int))))
 else
 (bif (BEq.beq op (22 : Int)) then
 (Tree.leaf (SV.v (Value.int IntKind.i64 (6 : Int))))
 else
 (bif (BEq.beq op (25 : Int)) then
 (Tree.leaf (SV.v (Value.int IntKind.i64 (7 : Int))))
 else
 (Tree.leaf (SV.v (Value.int IntKind.i64 (0 : Int)))))))))))))))))))))))))))) := by kernel_rfl
section
attribute [local irreducible] evF evFL evFLs evFM
theorem a_ref02_Form (op : Int) (ok_op : okI .i64 op) : (evF E_ref02_Form 60 57 (encArgs [.i .i64] (op, ()))).ends fun out_ => decO [.i .i64] out_ = some (K.form op) := by
  rw [t_ref02_Form, Tree.ends_holds]
  simp only [Tree.holds_loop, Tree.holds_fork, Tree.holds_next, if_true, Tree.holds_cond, Tree.holds_letv, Tree.holds_leaf, Tree.holds_fail, decO, decA, decTup, decMach, decCore, decTrap, decInstr, decPart, decGuest, decConf, decEvent, decVcpu, decStep, bytesS, boolS, eventsS, intsS, guestsS, vcpusS, rowS, castL, Option.bind_some, Option.map_some, Option.some.injEq, Nat.beq_refl, beq_self_eq_true, Bool.and_self, cond_true, cond_false, eq_self, beq_iff_eq, beq_eq_false_iff_ne, bne_iff_ne, bne_eq_false_iff_eq, ne_eq, decide_eq_true_eq, decide_eq_false_iff_not, ble_true, ble_false, inRange_iff, inRange_false]
  repeat' (first | refine drop_ok ?_ | intro _ | with_reducible apply And.intro)
  all_goals first | (subst_vars; rfl) | (unfold K.form; (repeat' split) <;> first | rfl | omega)
  
theorem c_ref02_Form : SpecOk EB 57 S_ref02_Form := spec_sig ok_ref02_Form (n := 60) fun ⟨op, ⟨⟩⟩ h hok => a_ref02_Form op (ok_int (okSL_head hok))
end

/-! ref01_Sign -/

def S_ref01_Sign : Spec := sig [.i .u32, .i .i64] [.i .i32] (fun (v, n, _) => K.sext v) (pre := fun (v, n, _) => decide (n = 18))
noncomputable def E_ref01_Sign : Env := EB.adds [(94, S_ref01_Field), (98, S_ref01_Pow)]

theorem ok_ref01_Sign : EnvOk E_ref01_Sign := okEB.adds (l := _) ⟨c_ref01_Field, c_ref01_Pow, trivial⟩

theorem t_ref01_Sign (v : Int) (n : Int) : evF E_ref01_Sign 60 136 (encArgs [.i .u32, .i .i64] (v, n, ())) = 
 bif (decide (And ((0 : Int) ≤ (63 : Int)) (n ≤ (63 : Int)))) then
 (Tree.letv (okO [(AT.i IntKind.u32)]) (K.field v (0 : Int) n) fun x0 =>
 (bif (decide ((IntKind.wrap IntKind.i64 (n - (1 : Int))) ≤ (63 : Int))) then
 (Tree.letv (okO [(AT.i IntKind.u64)]) (K.pow (IntKind.wrap IntKind.i64 (n - (1 : Int)))) fun x1 =>
 (bif (decide ((IntKind.wrap IntKind.i64 x0) ≥ (IntKind.wrap IntKind.i64 x1))) then
 (bif (decide (n ≤ (63 : Int))) then
 (Tree.letv (okO [(AT.i IntKind.u64)]) (K.pow n) fun x2 =>
 (Tree.leaf (SV.v (Value.int IntKind.i32 (IntKind.wrap IntKind.i32 (IntKind.wrap IntKind.i64 ((IntKind.wrap IntKind.i64 x0) - (IntKind.wrap IntKind.i64 x2))))))))
 else
 (Tree.fail))
 else
 (Tree.leaf (SV.v (Value.int IntKind.i32 (IntKind.wrap IntKind.i32 (IntKind.wrap IntKind.i64 x0)))))))
 else
 (Tree.fail)))
 else
 (Tree.fail) := by kernel_rfl
section
attribute [local irreducible] evF evFL evFLs evFM
theorem a_ref01_Sign (v : Int) (n : Int) (hpre : n = 18) (ok_v : okI .u32 v) (ok_n : okI .i64 n) : (evF E_ref01_Sign 60 136 (encArgs [.i .u32, .i .i64] (v, n, ()))).ends fun out_ => decO [.i .i32] out_ = some (K.sext v) := by
  rw [t_ref01_Sign, Tree.ends_holds]
  obtain ⟨v0, v1⟩ := okI_u32 ok_v
  subst hpre
  have e1 : K.field v 0 18 = v % 262144 := by simp [K.field, K.pow]
  have e2 : IntKind.i64.wrap (v % 262144) = v % 262144 := wrapI64 (by omega) (by omega)
  have e3 : IntKind.i64.wrap (K.pow (IntKind.i64.wrap (18 - 1))) = 131072 := by decide
  have e4 : IntKind.i64.wrap (K.pow 18) = 262144 := by decide
  have e5 : decide (IntKind.i64.wrap (18 - 1) ≤ 63) = true := by decide
  have e6 : IntKind.i64.wrap (v % 262144 - 262144) = v % 262144 - 262144 := wrapI64 (by omega) (by omega)
  have e7 : IntKind.i32.wrap (v % 262144) = v % 262144 := wrapI32 (by omega) (by omega)
  have e8 : IntKind.i32.wrap (v % 262144 - 262144) = v % 262144 - 262144 := wrapI32 (by omega) (by omega)
  simp only [Tree.holds_loop, Tree.holds_fork, Tree.holds_next, if_true, Tree.holds_cond, Tree.holds_letv, Tree.holds_leaf, Tree.holds_fail, decO, decA, decTup, decMach, decCore, decTrap, decInstr, decPart, decGuest, decConf, decEvent, decVcpu, decStep, bytesS, boolS, eventsS, intsS, guestsS, vcpusS, rowS, castL, Option.bind_some, Option.map_some, Option.some.injEq, Nat.beq_refl, beq_self_eq_true, Bool.and_self, cond_true, cond_false, eq_self, beq_iff_eq, beq_eq_false_iff_ne, bne_iff_ne, bne_eq_false_iff_eq, ne_eq, decide_eq_true_eq, decide_eq_false_iff_not, ble_true, ble_false, inRange_iff, inRange_false, e1, e2, e3, e4, e5, e6, e7, e8, K.sext]
  repeat' (first | refine drop_ok ?_ | intro _ | with_reducible apply And.intro)
  all_goals first | omega | (simp_all; done) | (simp_all; omega)
  
theorem c_ref01_Sign : SpecOk EB 136 S_ref01_Sign := spec_sig ok_ref01_Sign (n := 60) fun ⟨v, n, ⟨⟩⟩ h hok => a_ref01_Sign v n (of_decide_eq_true h) (ok_int (okSL_head hok)) (ok_int (okSL_head (okSL_tail hok)))
end

/-! ref02_May -/

def S_ref02_May : Spec := sig [.instr] [.b] (fun (i, _) => K.may i)
noncomputable def E_ref02_May : Env := EB.adds []

theorem ok_ref02_May : EnvOk E_ref02_May := okEB.adds (l := _) trivial

theorem t_c_ref02_May_0 (rd ra rb imm : Int) : evF E_ref02_May 60 55 [.agg (instrC ⟨0, rd, ra, rb, imm⟩)] = 
 Tree.leaf (SV.b false) := by kernel_rfl
theorem t_c_ref02_May_1 (rd ra rb imm : Int) : evF E_ref02_May 60 55 [.agg (instrC ⟨1, rd, ra, rb, imm⟩)] = 
 bif (decide (rd ≥ (0 : Int))) then
 (bif (decide (rd ≤ (15 : Int))) then
 (bif (decide (ra ≥ (0 : Int))) then
 (bif (decide (ra ≤ (15 : Int))) then
 (bif (decide (rb ≥ (0 : Int))) then
 (bif (decide (rb ≤ (15 : Int))) then
 (bif (BEq.beq imm (0 : Int)) then
 (Tree.leaf (SV.b true))
 else
 (Tree.leaf (SV.b false)))
 else
 (Tree.leaf (SV.b false)))
 else
 (Tree.leaf (SV.b false)))
 else
 (Tree.leaf (SV.b false)))
 else
 (Tree.leaf (SV.b false)))
 else
 (Tree.leaf (SV.b false)))
 else
 (Tree.leaf (SV.b false)) := by kernel_rfl
theorem t_c_ref02_May_2 (rd ra rb imm : Int) : evF E_ref02_May 60 55 [.agg (instrC ⟨2, rd, ra, rb, imm⟩)] = 
 bif (decide (rd ≥ (0 : Int))) then
 (bif (decide (rd ≤ (15 : Int))) then
 (bif (decide (ra ≥ (0 : Int))) then
 (bif (decide (ra ≤ (15 : Int))) then
 (bif (decide (rb ≥ (0 : Int))) then
 (bif (decide (rb ≤ (15 : Int))) then
 (bif (BEq.beq imm (0 : Int)) then
 (Tree.leaf (SV.b true))
 else
 (Tree.leaf (SV.b false)))
 else
 (Tree.leaf (SV.b false)))
 else
 (Tree.leaf (SV.b false)))
 else
 (Tree.leaf (SV.b false)))
 else
 (Tree.leaf (SV.b false)))
 else
 (Tree.leaf (SV.b false)))
 else
 (Tree.leaf (SV.b false)) := by kernel_rfl
theorem t_c_ref02_May_3 (rd ra rb imm : Int) : evF E_ref02_May 60 55 [.agg (instrC ⟨3, rd, ra, rb, imm⟩)] = 
 bif (decide (rd ≥ (0 : Int))) then
 (bif (decide (rd ≤ (15 : Int))) then
 (bif (decide (ra ≥ (0 : Int))) then
 (bif (decide (ra ≤ (15 : Int))) then
 (bif (decide (rb ≥ (0 : Int))) then
 (bif (decide (rb ≤ (15 : Int))) then
 (bif (BEq.beq imm (0 : Int)) then
 (Tree.leaf (SV.b true))
 else
 (Tree.leaf (SV.b false)))
 else
 (Tree.leaf (SV.b false)))
 else
 (Tree.leaf (SV.b false)))
 else
 (Tree.leaf (SV.b false)))
 else
 (Tree.leaf (SV.b false)))
 else
 (Tree.leaf (SV.b false)))
 else
 (Tree.leaf (SV.b false)) := by kernel_rfl
theorem t_c_ref02_May_4 (rd ra rb imm : Int) : evF E_ref02_May 60 55 [.agg (instrC ⟨4, rd, ra, rb, imm⟩)] = 
 bif (decide (rd ≥ (0 : Int))) then
 (bif (decide (rd ≤ (15 : Int))) then
 (bif (decide (ra ≥ (0 : Int))) then
 (bif (decide (ra ≤ (15 : Int))) then
 (bif (decide (rb ≥ (0 : Int))) then
 (bif (decide (rb ≤ (15 : Int))) then
 (bif (BEq.beq imm (0 : Int)) then
 (Tree.leaf (SV.b true))
 else
 (Tree.leaf (SV.b false)))
 else
 (Tree.leaf (SV.b false)))
 else
 (Tree.leaf (SV.b false)))
 else
 (Tree.leaf (SV.b false)))
 else
 (Tree.leaf (SV.b false)))
 else
 (Tree.leaf (SV.b false)))
 else
 (Tree.leaf (SV.b false)) := by kernel_rfl
theorem t_c_ref02_May_5 (rd ra rb imm : Int) : evF E_ref02_May 60 55 [.agg (instrC ⟨5, rd, ra, rb, imm⟩)] = 
 bif (decide (rd ≥ (0 : Int))) then
 (bif (decide (rd ≤ (15 : Int))) then
 (bif (decide (ra ≥ (0 : Int))) then
 (bif (decide (ra ≤ (15 : Int))) then
 (bif (decide (rb ≥ (0 : Int))) then
 (bif (decide (rb ≤ (15 : Int))) then
 (bif (BEq.beq imm (0 : Int)) then
 (Tree.leaf (SV.b true))
 else
 (Tree.leaf (SV.b false)))
 else
 (Tree.leaf (SV.b false)))
 else
 (Tree.leaf (SV.b false)))
 else
 (Tree.leaf (SV.b false)))
 else
 (Tree.leaf (SV.b false)))
 else
 (Tree.leaf (SV.b false)))
 else
 (Tree.leaf (SV.b false)) := by kernel_rfl
theorem t_c_ref02_May_6 (rd ra rb imm : Int) : evF E_ref02_May 60 55 [.agg (instrC ⟨6, rd, ra, rb, imm⟩)] = 
 bif (decide (rd ≥ (0 : Int))) then
 (bif (decide (rd ≤ (15 : Int))) then
 (bif (decide (ra ≥ (0 : Int))) then
 (bif (decide (ra ≤ (15 : Int))) then
 (bif (decide (rb ≥ (0 : Int))) then
 (bif (decide (rb ≤ (15 : Int))) then
 (bif (BEq.beq imm (0 : Int)) then
 (Tree.leaf (SV.b true))
 else
 (Tree.leaf (SV.b false)))
 else
 (Tree.leaf (SV.b false)))
 else
 (Tree.leaf (SV.b false)))
 else
 (Tree.leaf (SV.b false)))
 else
 (Tree.leaf (SV.b false)))
 else
 (Tree.leaf (SV.b false)))
 else
 (Tree.leaf (SV.b false)) := by kernel_rfl
theorem t_c_ref02_May_7 (rd ra rb imm : Int) : evF E_ref02_May 60 55 [.agg (instrC ⟨7, rd, ra, rb, imm⟩)] = 
 bif (decide (rd ≥ (0 : Int))) then
 (bif (decide (rd ≤ (15 : Int))) then
 (bif (decide (ra ≥ (0 : Int))) then
 (bif (decide (ra ≤ (15 : Int))) then
 (bif (decide (rb ≥ (0 : Int))) then
 (bif (decide (rb ≤ (15 : Int))) then
 (bif (BEq.beq imm (0 : Int)) then
 (Tree.leaf (SV.b true))
 else
 (Tree.leaf (SV.b false)))
 else
 (Tree.leaf (SV.b false)))
 else
 (Tree.leaf (SV.b false)))
 else
 (Tree.leaf (SV.b false)))
 else
 (Tree.leaf (SV.b false)))
 else
 (Tree.leaf (SV.b false)))
 else
 (Tree.leaf (SV.b false)) := by kernel_rfl
theorem t_c_ref02_May_8 (rd ra rb imm : Int) : evF E_ref02_May 60 55 [.agg (instrC ⟨8, rd, ra, rb, imm⟩)] = 
 bif (decide (rd ≥ (0 : Int))) then
 (bif (decide (rd ≤ (15 : Int))) then
 (bif (decide (ra ≥ (0 : Int))) then
 (bif (decide (ra ≤ (15 : Int))) then
 (bif (decide (rb ≥ (0 : Int))) then
 (bif (decide (rb ≤ (15 : Int))) then
 (bif (BEq.beq imm (0 : Int)) then
 (Tree.leaf (SV.b true))
 else
 (Tree.leaf (SV.b false)))
 else
 (Tree.leaf (SV.b false)))
 else
 (Tree.leaf (SV.b false)))
 else
 (Tree.leaf (SV.b false)))
 else
 (Tree.leaf (SV.b false)))
 else
 (Tree.leaf (SV.b false)))
 else
 (Tree.leaf (SV.b false)) := by kernel_rfl
theorem t_c_ref02_May_9 (rd ra rb imm : Int) : evF E_ref02_May 60 55 [.agg (instrC ⟨9, rd, ra, rb, imm⟩)] = 
 bif (decide (rd ≥ (0 : Int))) then
 (bif (decide (rd ≤ (15 : Int))) then
 (bif (decide (ra ≥ (0 : Int))) then
 (bif (decide (ra ≤ (15 : Int))) then
 (bif (BEq.beq rb (0 : Int)) then
 (bif (decide ((IntKind.wrap IntKind.i64 imm) ≥ (-131072 : Int))) then
 (bif (decide ((IntKind.wrap IntKind.i64 imm) < (131072 : Int))) then
 (Tree.leaf (SV.b true))
 else
 (Tree.leaf (SV.b false)))
 else
 (Tree.leaf (SV.b false)))
 else
 (Tree.leaf (SV.b false)))
 else
 (Tree.leaf (SV.b false)))
 else
 (Tree.leaf (SV.b false)))
 else
 (Tree.leaf (SV.b false)))
 else
 (Tree.leaf (SV.b false)) := by kernel_rfl
theorem t_c_ref02_May_10 (rd ra rb imm : Int) : evF E_ref02_May 60 55 [.agg (instrC ⟨10, rd, ra, rb, imm⟩)] = 
 bif (decide (rd ≥ (0 : Int))) then
 (bif (decide (rd ≤ (15 : Int))) then
 (bif (BEq.beq ra (0 : Int)) then
 (bif (BEq.beq rb (0 : Int)) then
 (bif (decide ((IntKind.wrap IntKind.i64 imm) ≥ (-131072 : Int))) then
 (bif (decide ((IntKind.wrap IntKind.i64 imm) < (131072 : Int))) then
 (Tree.leaf (SV.b true))
 else
 (Tree.leaf (SV.b false)))
 else
 (Tree.leaf (SV.b false)))
 else
 (Tree.leaf (SV.b false)))
 else
 (Tree.leaf (SV.b false)))
 else
 (Tree.leaf (SV.b false)))
 else
 (Tree.leaf (SV.b false)) := by kernel_rfl
theorem t_c_ref02_May_11 (rd ra rb imm : Int) : evF E_ref02_May 60 55 [.agg (instrC ⟨11, rd, ra, rb, imm⟩)] = 
 bif (decide (rd ≥ (0 : Int))) then
 (bif (decide (rd ≤ (15 : Int))) then
 (bif (decide (ra ≥ (0 : Int))) then
 (bif (decide (ra ≤ (15 : Int))) then
 (bif (BEq.beq rb (0 : Int)) then
 (bif (decide ((IntKind.wrap IntKind.i64 imm) ≥ (-131072 : Int))) then
 (bif (decide ((IntKind.wrap IntKind.i64 imm) < (131072 : Int))) then
 (Tree.leaf (SV.b true))
 else
 (Tree.leaf (SV.b false)))
 else
 (Tree.leaf (SV.b false)))
 else
 (Tree.leaf (SV.b false)))
 else
 (Tree.leaf (SV.b false)))
 else
 (Tree.leaf (SV.b false)))
 else
 (Tree.leaf (SV.b false)))
 else
 (Tree.leaf (SV.b false)) := by kernel_rfl
theorem t_c_ref02_May_12 (rd ra rb imm : Int) : evF E_ref02_May 60 55 [.agg (instrC ⟨12, rd, ra, rb, imm⟩)] = 
 bif (decide (rd ≥ (0 : Int))) then
 (bif (decide (rd ≤ (15 : Int))) then
 (bif (decide (ra ≥ (0 : Int))) then
 (bif (decide (ra ≤ (15 : Int))) then
 (bif (BEq.beq rb (0 : Int)) then
 (bif (decide ((IntKind.wrap IntKind.i64 imm) ≥ (-131072 : Int))) then
 (bif (decide ((IntKind.wrap IntKind.i64 imm) < (131072 : Int))) then
 (Tree.leaf (SV.b true))
 else
 (Tree.leaf (SV.b false)))
 else
 (Tree.leaf (SV.b false)))
 else
 (Tree.leaf (SV.b false)))
 else
 (Tree.leaf (SV.b false)))
 else
 (Tree.leaf (SV.b false)))
 else
 (Tree.leaf (SV.b false)))
 else
 (Tree.leaf (SV.b false)) := by kernel_rfl
theorem t_c_ref02_May_13 (rd ra rb imm : Int) : evF E_ref02_May 60 55 [.agg (instrC ⟨13, rd, ra, rb, imm⟩)] = 
 bif (decide (rd ≥ (0 : Int))) then
 (bif (decide (rd ≤ (15 : Int))) then
 (bif (decide (ra ≥ (0 : Int))) then
 (bif (decide (ra ≤ (15 : Int))) then
 (bif (BEq.beq rb (0 : Int)) then
 (bif (decide ((IntKind.wrap IntKind.i64 imm) ≥ (-131072 : Int))) then
 (bif (decide ((IntKind.wrap IntKind.i64 imm) < (131072 : Int))) then
 (Tree.leaf (SV.b true))
 else
 (Tree.leaf (SV.b false)))
 else
 (Tree.leaf (SV.b false)))
 else
 (Tree.leaf (SV.b false)))
 else
 (Tree.leaf (SV.b false)))
 else
 (Tree.leaf (SV.b false)))
 else
 (Tree.leaf (SV.b false)))
 else
 (Tree.leaf (SV.b false)) := by kernel_rfl
theorem t_c_ref02_May_14 (rd ra rb imm : Int) : evF E_ref02_May 60 55 [.agg (instrC ⟨14, rd, ra, rb, imm⟩)] = 
 bif (decide (rd ≥ (0 : Int))) then
 (bif (decide (rd ≤ (15 : Int))) then
 (bif (decide (ra ≥ (0 : Int))) then
 (bif (decide (ra ≤ (15 : Int))) then
 (bif (BEq.beq rb (0 : Int)) then
 (bif (decide ((IntKind.wrap IntKind.i64 imm) ≥ (-131072 : Int))) then
 (bif (decide ((IntKind.wrap IntKind.i64 imm) < (131072 : Int))) then
 (Tree.leaf (SV.b true))
 else
 (Tree.leaf (SV.b false)))
 else
 (Tree.leaf (SV.b false)))
 else
 (Tree.leaf (SV.b false)))
 else
 (Tree.leaf (SV.b false)))
 else
 (Tree.leaf (SV.b false)))
 else
 (Tree.leaf (SV.b false)))
 else
 (Tree.leaf (SV.b false)) := by kernel_rfl
theorem t_c_ref02_May_15 (rd ra rb imm : Int) : evF E_ref02_May 60 55 [.agg (instrC ⟨15, rd, ra, rb, imm⟩)] = 
 bif (decide (rd ≥ (0 : Int))) then
 (bif (decide (rd ≤ (15 : Int))) then
 (bif (decide (ra ≥ (0 : Int))) then
 (bif (decide (ra ≤ (15 : Int))) then
 (bif (BEq.beq rb (0 : Int)) then
 (bif (decide ((IntKind.wrap IntKind.i64 imm) ≥ (-131072 : Int))) then
 (bif (decide ((IntKind.wrap IntKind.i64 imm) < (131072 : Int))) then
 (Tree.leaf (SV.b true))
 else
 (Tree.leaf (SV.b false)))
 else
 (Tree.leaf (SV.b false)))
 else
 (Tree.leaf (SV.b false)))
 else
 (Tree.leaf (SV.b false)))
 else
 (Tree.leaf (SV.b false)))
 else
 (Tree.leaf (SV.b false)))
 else
 (Tree.leaf (SV.b false)) := by kernel_rfl
theorem t_c_ref02_May_16 (rd ra rb imm : Int) : evF E_ref02_May 60 55 [.agg (instrC ⟨16, rd, ra, rb, imm⟩)] = 
 bif (decide (rd ≥ (0 : Int))) then
 (bif (decide (rd ≤ (15 : Int))) then
 (bif (decide (ra ≥ (0 : Int))) then
 (bif (decide (ra ≤ (15 : Int))) then
 (bif (BEq.beq rb (0 : Int)) then
 (bif (decide ((IntKind.wrap IntKind.i64 imm) ≥ (-131072 : Int))) then
 (bif (decide ((IntKind.wrap IntKind.i64 imm) < (131072 : Int))) then
 (Tree.leaf (SV.b true))
 else
 (Tree.leaf (SV.b false)))
 else
 (Tree.leaf (SV.b false)))
 else
 (Tree.leaf (SV.b false)))
 else
 (Tree.leaf (SV.b false)))
 else
 (Tree.leaf (SV.b false)))
 else
 (Tree.leaf (SV.b false)))
 else
 (Tree.leaf (SV.b false)) := by kernel_rfl
theorem t_c_ref02_May_17 (rd ra rb imm : Int) : evF E_ref02_May 60 55 [.agg (instrC ⟨17, rd, ra, rb, imm⟩)] = 
 bif (decide (rd ≥ (0 : Int))) then
 (bif (decide (rd ≤ (15 : Int))) then
 (bif (decide (ra ≥ (0 : Int))) then
 (bif (decide (ra ≤ (15 : Int))) then
 (bif (BEq.beq rb (0 : Int)) then
 (bif (decide ((IntKind.wrap IntKind.i64 imm) ≥ (-131072 : Int))) then
 (bif (decide ((IntKind.wrap IntKind.i64 imm) < (131072 : Int))) then
 (Tree.leaf (SV.b true))
 else
 (Tree.leaf (SV.b false)))
 else
 (Tree.leaf (SV.b false)))
 else
 (Tree.leaf (SV.b false)))
 else
 (Tree.leaf (SV.b false)))
 else
 (Tree.leaf (SV.b false)))
 else
 (Tree.leaf (SV.b false)))
 else
 (Tree.leaf (SV.b false)) := by kernel_rfl
theorem t_c_ref02_May_18 (rd ra rb imm : Int) : evF E_ref02_May 60 55 [.agg (instrC ⟨18, rd, ra, rb, imm⟩)] = 
 bif (decide (rd ≥ (0 : Int))) then
 (bif (decide (rd ≤ (15 : Int))) then
 (bif (BEq.beq ra (0 : Int)) then
 (bif (BEq.beq rb (0 : Int)) then
 (bif (decide ((IntKind.wrap IntKind.i64 imm) ≥ (-131072 : Int))) then
 (bif (decide ((IntKind.wrap IntKind.i64 imm) < (131072 : Int))) then
 (Tree.leaf (SV.b true))
 else
 (Tree.leaf (SV.b false)))
 else
 (Tree.leaf (SV.b false)))
 else
 (Tree.leaf (SV.b false)))
 else
 (Tree.leaf (SV.b false)))
 else
 (Tree.leaf (SV.b false)))
 else
 (Tree.leaf (SV.b false)) := by kernel_rfl
theorem t_c_ref02_May_19 (rd ra rb imm : Int) : evF E_ref02_May 60 55 [.agg (instrC ⟨19, rd, ra, rb, imm⟩)] = 
 bif (decide (rd ≥ (0 : Int))) then
 (bif (decide (rd ≤ (15 : Int))) then
 (bif (decide (ra ≥ (0 : Int))) then
 (bif (decide (ra ≤ (15 : Int))) then
 (bif (BEq.beq rb (0 : Int)) then
 (bif (decide ((IntKind.wrap IntKind.i64 imm) ≥ (-131072 : Int))) then
 (bif (decide ((IntKind.wrap IntKind.i64 imm) < (131072 : Int))) then
 (Tree.leaf (SV.b true))
 else
 (Tree.leaf (SV.b false)))
 else
 (Tree.leaf (SV.b false)))
 else
 (Tree.leaf (SV.b false)))
 else
 (Tree.leaf (SV.b false)))
 else
 (Tree.leaf (SV.b false)))
 else
 (Tree.leaf (SV.b false)))
 else
 (Tree.leaf (SV.b false)) := by kernel_rfl
theorem t_c_ref02_May_20 (rd ra rb imm : Int) : evF E_ref02_May 60 55 [.agg (instrC ⟨20, rd, ra, rb, imm⟩)] = 
 bif (BEq.beq rd (0 : Int)) then
 (bif (BEq.beq ra (0 : Int)) then
 (bif (BEq.beq rb (0 : Int)) then
 (bif (BEq.beq imm (0 : Int)) then
 (Tree.leaf (SV.b true))
 else
 (Tree.leaf (SV.b false)))
 else
 (Tree.leaf (SV.b false)))
 else
 (Tree.leaf (SV.b false)))
 else
 (Tree.leaf (SV.b false)) := by kernel_rfl
theorem t_c_ref02_May_21 (rd ra rb imm : Int) : evF E_ref02_May 60 55 [.agg (instrC ⟨21, rd, ra, rb, imm⟩)] = 
 bif (decide (rd ≥ (0 : Int))) then
 (bif (decide (rd ≤ (15 : Int))) then
 (bif (BEq.beq ra (0 : Int)) then
 (bif (BEq.beq rb (0 : Int)) then
 (bif (decide (imm ≥ (0 : Int))) then
 (bif (decide (imm ≤ (11 : Int))) then
 (Tree.leaf (SV.b true))
 else
 (Tree.leaf (SV.b false)))
 else
 (Tree.leaf (SV.b false)))
 else
 (Tree.leaf (SV.b false)))
 else
 (Tree.leaf (SV.b false)))
 else
 (Tree.leaf (SV.b false)))
 else
 (Tree.leaf (SV.b false)) := by kernel_rfl
theorem t_c_ref02_May_22 (rd ra rb imm : Int) : evF E_ref02_May 60 55 [.agg (instrC ⟨22, rd, ra, rb, imm⟩)] = 
 bif (BEq.beq rd (0 : Int)) then
 (bif (decide (ra ≥ (0 : Int))) then
 (bif (decide (ra ≤ (15 : Int))) then
 (bif (BEq.beq rb (0 : Int)) then
 (bif (decide (imm ≥ (0 : Int))) then
 (bif (decide (imm ≤ (11 : Int))) then
 (Tree.leaf (SV.b true))
 else
 (Tree.leaf (SV.b false)))
 else
 (Tree.leaf (SV.b false)))
 else
 (Tree.leaf (SV.b false)))
 else
 (Tree.leaf (SV.b false)))
 else
 (Tree.leaf (SV.b false)))
 else
 (Tree.leaf (SV.b false)) := by kernel_rfl
theorem t_c_ref02_May_23 (rd ra rb imm : Int) : evF E_ref02_May 60 55 [.agg (instrC ⟨23, rd, ra, rb, imm⟩)] = 
 bif (BEq.beq rd (0 : Int)) then
 (bif (BEq.beq ra (0 : Int)) then
 (bif (BEq.beq rb (0 : Int)) then
 (bif (BEq.beq imm (0 : Int)) then
 (Tree.leaf (SV.b true))
 else
 (Tree.leaf (SV.b false)))
 else
 (Tree.leaf (SV.b false)))
 else
 (Tree.leaf (SV.b false)))
 else
 (Tree.leaf (SV.b false)) := by kernel_rfl
theorem t_c_ref02_May_24 (rd ra rb imm : Int) : evF E_ref02_May 60 55 [.agg (instrC ⟨24, rd, ra, rb, imm⟩)] = 
 bif (BEq.beq rd (0 : Int)) then
 (bif (BEq.beq ra (0 : Int)) then
 (bif (BEq.beq rb (0 : Int)) then
 (bif (BEq.beq imm (0 : Int)) then
 (Tree.leaf (SV.b true))
 else
 (Tree.leaf (SV.b false)))
 else
 (Tree.leaf (SV.b false)))
 else
 (Tree.leaf (SV.b false)))
 else
 (Tree.leaf (SV.b false)) := by kernel_rfl
theorem t_c_ref02_May_25 (rd ra rb imm : Int) : evF E_ref02_May 60 55 [.agg (instrC ⟨25, rd, ra, rb, imm⟩)] = 
 bif (BEq.beq rd (0 : Int)) then
 (bif (decide (ra ≥ (0 : Int))) then
 (bif (decide (ra ≤ (15 : Int))) then
 (bif (BEq.beq rb (0 : Int)) then
 (bif (BEq.beq imm (0 : Int)) then
 (Tree.leaf (SV.b true))
 else
 (Tree.leaf (SV.b false)))
 else
 (Tree.leaf (SV.b false)))
 else
 (Tree.leaf (SV.b false)))
 else
 (Tree.leaf (SV.b false)))
 else
 (Tree.leaf (SV.b false)) := by kernel_rfl
theorem t_c_ref02_May_n (m : Nat) (rd ra rb imm : Int) : evF E_ref02_May 60 55 [.agg (instrC ⟨.negSucc m, rd, ra, rb, imm⟩)] = .leaf (.b false) := by kernel_rfl
theorem t_c_ref02_May_o (m : Nat) (rd ra rb imm : Int) : evF E_ref02_May 60 55 [.agg (instrC ⟨.ofNat (m + 26), rd, ra, rb, imm⟩)] = .leaf (.b false) := by kernel_rfl
theorem a_c_ref02_May (i : PInstr) (ok_i : okInstr i) : (evF E_ref02_May 60 55 [.agg (instrC i)]).ends fun out_ => decO [.b] out_ = some (K.may i) := by
  obtain ⟨op, rd, ra, rb, imm⟩ := i
  obtain ⟨im0, im1⟩ := okI_i32 ok_i.imm
  have ew : IntKind.i64.wrap imm = imm := wrapI64 (by simp only at im0; omega) (by simp only at im1; omega)
  clear ok_i im0 im1
  have out : (op < 0 ∨ 26 ≤ op) → K.form op = 0 := fun h => by unfold K.form; (repeat' split) <;> first | rfl | omega
  rcases op_cases op with ⟨m, rfl⟩ | ⟨m, rfl⟩ | rfl | rfl | rfl | rfl | rfl | rfl | rfl | rfl | rfl | rfl | rfl | rfl | rfl | rfl | rfl | rfl | rfl | rfl | rfl | rfl | rfl | rfl | rfl | rfl | rfl | rfl 
  · rw [t_c_ref02_May_n, Tree.ends_holds]; simp only [Tree.holds_loop, Tree.holds_fork, Tree.holds_next, if_true, Tree.holds_cond, Tree.holds_letv, Tree.holds_leaf, Tree.holds_fail, decO, decA, decTup, decMach, decCore, decTrap, decInstr, decPart, decGuest, decConf, decEvent, decVcpu, decStep, bytesS, boolS, eventsS, intsS, guestsS, vcpusS, rowS, castL, Option.bind_some, Option.map_some, Option.some.injEq, Nat.beq_refl, beq_self_eq_true, Bool.and_self, cond_true, cond_false, eq_self, K.may, out (.inl (Int.negSucc_lt_zero m))]; rfl
  · rw [t_c_ref02_May_o, Tree.ends_holds]; simp only [Tree.holds_loop, Tree.holds_fork, Tree.holds_next, if_true, Tree.holds_cond, Tree.holds_letv, Tree.holds_leaf, Tree.holds_fail, decO, decA, decTup, decMach, decCore, decTrap, decInstr, decPart, decGuest, decConf, decEvent, decVcpu, decStep, bytesS, boolS, eventsS, intsS, guestsS, vcpusS, rowS, castL, Option.bind_some, Option.map_some, Option.some.injEq, Nat.beq_refl, beq_self_eq_true, Bool.and_self, cond_true, cond_false, eq_self, K.may, out (.inr (show (26 : Int) ≤ Int.ofNat (m + 26) by simp; omega))]; rfl

  · rw [t_c_ref02_May_0, Tree.ends_holds]; simp only [Tree.holds_loop, Tree.holds_fork, Tree.holds_next, if_true, Tree.holds_cond, Tree.holds_letv, Tree.holds_leaf, Tree.holds_fail, decO, decA, decTup, decMach, decCore, decTrap, decInstr, decPart, decGuest, decConf, decEvent, decVcpu, decStep, bytesS, boolS, eventsS, intsS, guestsS, vcpusS, rowS, castL, Option.bind_some, Option.map_some, Option.some.injEq, Nat.beq_refl, beq_self_eq_true, Bool.and_self, cond_true, cond_false, eq_self, beq_iff_eq, beq_eq_false_iff_ne, bne_iff_ne, bne_eq_false_iff_eq, ne_eq, decide_eq_true_eq, decide_eq_false_iff_not, ble_true, ble_false, inRange_iff, inRange_false, K.may, form_0, K.regOk, ew]
    clear out
    repeat' (first | refine drop_ok ?_ | intro _ | with_reducible apply And.intro)
    all_goals grind

  · rw [t_c_ref02_May_1, Tree.ends_holds]; simp only [Tree.holds_loop, Tree.holds_fork, Tree.holds_next, if_true, Tree.holds_cond, Tree.holds_letv, Tree.holds_leaf, Tree.holds_fail, decO, decA, decTup, decMach, decCore, decTrap, decInstr, decPart, decGuest, decConf, decEvent, decVcpu, decStep, bytesS, boolS, eventsS, intsS, guestsS, vcpusS, rowS, castL, Option.bind_some, Option.map_some, Option.some.injEq, Nat.beq_refl, beq_self_eq_true, Bool.and_self, cond_true, cond_false, eq_self, beq_iff_eq, beq_eq_false_iff_ne, bne_iff_ne, bne_eq_false_iff_eq, ne_eq, decide_eq_true_eq, decide_eq_false_iff_not, ble_true, ble_false, inRange_iff, inRange_false, K.may, form_1, K.regOk, ew]
    clear out
    repeat' (first | refine drop_ok ?_ | intro _ | with_reducible apply And.intro)
    all_goals grind

  · rw [t_c_ref02_May_2, Tree.ends_holds]; simp only [Tree.holds_loop, Tree.holds_fork, Tree.holds_next, if_true, Tree.holds_cond, Tree.holds_letv, Tree.holds_leaf, Tree.holds_fail, decO, decA, decTup, decMach, decCore, decTrap, decInstr, decPart, decGuest, decConf, decEvent, decVcpu, decStep, bytesS, boolS, eventsS, intsS, guestsS, vcpusS, rowS, castL, Option.bind_some, Option.map_some, Option.some.injEq, Nat.beq_refl, beq_self_eq_true, Bool.and_self, cond_true, cond_false, eq_self, beq_iff_eq, beq_eq_false_iff_ne, bne_iff_ne, bne_eq_false_iff_eq, ne_eq, decide_eq_true_eq, decide_eq_false_iff_not, ble_true, ble_false, inRange_iff, inRange_false, K.may, form_2, K.regOk, ew]
    clear out
    repeat' (first | refine drop_ok ?_ | intro _ | with_reducible apply And.intro)
    all_goals grind

  · rw [t_c_ref02_May_3, Tree.ends_holds]; simp only [Tree.holds_loop, Tree.holds_fork, Tree.holds_next, if_true, Tree.holds_cond, Tree.holds_letv, Tree.holds_leaf, Tree.holds_fail, decO, decA, decTup, decMach, decCore, decTrap, decInstr, decPart, decGuest, decConf, decEvent, decVcpu, decStep, bytesS, boolS, eventsS, intsS, guestsS, vcpusS, rowS, castL, Option.bind_some, Option.map_some, Option.some.injEq, Nat.beq_refl, beq_self_eq_true, Bool.and_self, cond_true, cond_false, eq_self, beq_iff_eq, beq_eq_false_iff_ne, bne_iff_ne, bne_eq_false_iff_eq, ne_eq, decide_eq_true_eq, decide_eq_false_iff_not, ble_true, ble_false, inRange_iff, inRange_false, K.may, form_3, K.regOk, ew]
    clear out
    repeat' (first | refine drop_ok ?_ | intro _ | with_reducible apply And.intro)
    all_goals grind

  · rw [t_c_ref02_May_4, Tree.ends_holds]; simp only [Tree.holds_loop, Tree.holds_fork, Tree.holds_next, if_true, Tree.holds_cond, Tree.holds_letv, Tree.holds_leaf, Tree.holds_fail, decO, decA, decTup, decMach, decCore, decTrap, decInstr, decPart, decGuest, decConf, decEvent, decVcpu, decStep, bytesS, boolS, eventsS, intsS, guestsS, vcpusS, rowS, castL, Option.bind_some, Option.map_some, Option.some.injEq, Nat.beq_refl, beq_self_eq_true, Bool.and_self, cond_true, cond_false, eq_self, beq_iff_eq, beq_eq_false_iff_ne, bne_iff_ne, bne_eq_false_iff_eq, ne_eq, decide_eq_true_eq, decide_eq_false_iff_not, ble_true, ble_false, inRange_iff, inRange_false, K.may, form_4, K.regOk, ew]
    clear out
    repeat' (first | refine drop_ok ?_ | intro _ | with_reducible apply And.intro)
    all_goals grind

  · rw [t_c_ref02_May_5, Tree.ends_holds]; simp only [Tree.holds_loop, Tree.holds_fork, Tree.holds_next, if_true, Tree.holds_cond, Tree.holds_letv, Tree.holds_leaf, Tree.holds_fail, decO, decA, decTup, decMach, decCore, decTrap, decInstr, decPart, decGuest, decConf, decEvent, decVcpu, decStep, bytesS, boolS, eventsS, intsS, guestsS, vcpusS, rowS, castL, Option.bind_some, Option.map_some, Option.some.injEq, Nat.beq_refl, beq_self_eq_true, Bool.and_self, cond_true, cond_false, eq_self, beq_iff_eq, beq_eq_false_iff_ne, bne_iff_ne, bne_eq_false_iff_eq, ne_eq, decide_eq_true_eq, decide_eq_false_iff_not, ble_true, ble_false, inRange_iff, inRange_false, K.may, form_5, K.regOk, ew]
    clear out
    repeat' (first | refine drop_ok ?_ | intro _ | with_reducible apply And.intro)
    all_goals grind

  · rw [t_c_ref02_May_6, Tree.ends_holds]; simp only [Tree.holds_loop, Tree.holds_fork, Tree.holds_next, if_true, Tree.holds_cond, Tree.holds_letv, Tree.holds_leaf, Tree.holds_fail, decO, decA, decTup, decMach, decCore, decTrap, decInstr, decPart, decGuest, decConf, decEvent, decVcpu, decStep, bytesS, boolS, eventsS, intsS, guestsS, vcpusS, rowS, castL, Option.bind_some, Option.map_some, Option.some.injEq, Nat.beq_refl, beq_self_eq_true, Bool.and_self, cond_true, cond_false, eq_self, beq_iff_eq, beq_eq_false_iff_ne, bne_iff_ne, bne_eq_false_iff_eq, ne_eq, decide_eq_true_eq, decide_eq_false_iff_not, ble_true, ble_false, inRange_iff, inRange_false, K.may, form_6, K.regOk, ew]
    clear out
    repeat' (first | refine drop_ok ?_ | intro _ | with_reducible apply And.intro)
    all_goals grind

  · rw [t_c_ref02_May_7, Tree.ends_holds]; simp only [Tree.holds_loop, Tree.holds_fork, Tree.holds_next, if_true, Tree.holds_cond, Tree.holds_letv, Tree.holds_leaf, Tree.holds_fail, decO, decA, decTup, decMach, decCore, decTrap, decInstr, decPart, decGuest, decConf, decEvent, decVcpu, decStep, bytesS, boolS, eventsS, intsS, guestsS, vcpusS, rowS, castL, Option.bind_some, Option.map_some, Option.some.injEq, Nat.beq_refl, beq_self_eq_true, Bool.and_self, cond_true, cond_false, eq_self, beq_iff_eq, beq_eq_false_iff_ne, bne_iff_ne, bne_eq_false_iff_eq, ne_eq, decide_eq_true_eq, decide_eq_false_iff_not, ble_true, ble_false, inRange_iff, inRange_false, K.may, form_7, K.regOk, ew]
    clear out
    repeat' (first | refine drop_ok ?_ | intro _ | with_reducible apply And.intro)
    all_goals grind

  · rw [t_c_ref02_May_8, Tree.ends_holds]; simp only [Tree.holds_loop, Tree.holds_fork, Tree.holds_next, if_true, Tree.holds_cond, Tree.holds_letv, Tree.holds_leaf, Tree.holds_fail, decO, decA, decTup, decMach, decCore, decTrap, decInstr, decPart, decGuest, decConf, decEvent, decVcpu, decStep, bytesS, boolS, eventsS, intsS, guestsS, vcpusS, rowS, castL, Option.bind_some, Option.map_some, Option.some.injEq, Nat.beq_refl, beq_self_eq_true, Bool.and_self, cond_true, cond_false, eq_self, beq_iff_eq, beq_eq_false_iff_ne, bne_iff_ne, bne_eq_false_iff_eq, ne_eq, decide_eq_true_eq, decide_eq_false_iff_not, ble_true, ble_false, inRange_iff, inRange_false, K.may, form_8, K.regOk, ew]
    clear out
    repeat' (first | refine drop_ok ?_ | intro _ | with_reducible apply And.intro)
    all_goals grind

  · rw [t_c_ref02_May_9, Tree.ends_holds]; simp only [Tree.holds_loop, Tree.holds_fork, Tree.holds_next, if_true, Tree.holds_cond, Tree.holds_letv, Tree.holds_leaf, Tree.holds_fail, decO, decA, decTup, decMach, decCore, decTrap, decInstr, decPart, decGuest, decConf, decEvent, decVcpu, decStep, bytesS, boolS, eventsS, intsS, guestsS, vcpusS, rowS, castL, Option.bind_some, Option.map_some, Option.some.injEq, Nat.beq_refl, beq_self_eq_true, Bool.and_self, cond_true, cond_false, eq_self, beq_iff_eq, beq_eq_false_iff_ne, bne_iff_ne, bne_eq_false_iff_eq, ne_eq, decide_eq_true_eq, decide_eq_false_iff_not, ble_true, ble_false, inRange_iff, inRange_false, K.may, form_9, K.regOk, ew]
    clear out
    repeat' (first | refine drop_ok ?_ | intro _ | with_reducible apply And.intro)
    all_goals grind

  · rw [t_c_ref02_May_10, Tree.ends_holds]; simp only [Tree.holds_loop, Tree.holds_fork, Tree.holds_next, if_true, Tree.holds_cond, Tree.holds_letv, Tree.holds_leaf, Tree.holds_fail, decO, decA, decTup, decMach, decCore, decTrap, decInstr, decPart, decGuest, decConf, decEvent, decVcpu, decStep, bytesS, boolS, eventsS, intsS, guestsS, vcpusS, rowS, castL, Option.bind_some, Option.map_some, Option.some.injEq, Nat.beq_refl, beq_self_eq_true, Bool.and_self, cond_true, cond_false, eq_self, beq_iff_eq, beq_eq_false_iff_ne, bne_iff_ne, bne_eq_false_iff_eq, ne_eq, decide_eq_true_eq, decide_eq_false_iff_not, ble_true, ble_false, inRange_iff, inRange_false, K.may, form_10, K.regOk, ew]
    clear out
    repeat' (first | refine drop_ok ?_ | intro _ | with_reducible apply And.intro)
    all_goals grind

  · rw [t_c_ref02_May_11, Tree.ends_holds]; simp only [Tree.holds_loop, Tree.holds_fork, Tree.holds_next, if_true, Tree.holds_cond, Tree.holds_letv, Tree.holds_leaf, Tree.holds_fail, decO, decA, decTup, decMach, decCore, decTrap, decInstr, decPart, decGuest, decConf, decEvent, decVcpu, decStep, bytesS, boolS, eventsS, intsS, guestsS, vcpusS, rowS, castL, Option.bind_some, Option.map_some, Option.some.injEq, Nat.beq_refl, beq_self_eq_true, Bool.and_self, cond_true, cond_false, eq_self, beq_iff_eq, beq_eq_false_iff_ne, bne_iff_ne, bne_eq_false_iff_eq, ne_eq, decide_eq_true_eq, decide_eq_false_iff_not, ble_true, ble_false, inRange_iff, inRange_false, K.may, form_11, K.regOk, ew]
    clear out
    repeat' (first | refine drop_ok ?_ | intro _ | with_reducible apply And.intro)
    all_goals grind

  · rw [t_c_ref02_May_12, Tree.ends_holds]; simp only [Tree.holds_loop, Tree.holds_fork, Tree.holds_next, if_true, Tree.holds_cond, Tree.holds_letv, Tree.holds_leaf, Tree.holds_fail, decO, decA, decTup, decMach, decCore, decTrap, decInstr, decPart, decGuest, decConf, decEvent, decVcpu, decStep, bytesS, boolS, eventsS, intsS, guestsS, vcpusS, rowS, castL, Option.bind_some, Option.map_some, Option.some.injEq, Nat.beq_refl, beq_self_eq_true, Bool.and_self, cond_true, cond_false, eq_self, beq_iff_eq, beq_eq_false_iff_ne, bne_iff_ne, bne_eq_false_iff_eq, ne_eq, decide_eq_true_eq, decide_eq_false_iff_not, ble_true, ble_false, inRange_iff, inRange_false, K.may, form_12, K.regOk, ew]
    clear out
    repeat' (first | refine drop_ok ?_ | intro _ | with_reducible apply And.intro)
    all_goals grind

  · rw [t_c_ref02_May_13, Tree.ends_holds]; simp only [Tree.holds_loop, Tree.holds_fork, Tree.holds_next, if_true, Tree.holds_cond, Tree.holds_letv, Tree.holds_leaf, Tree.holds_fail, decO, decA, decTup, decMach, decCore, decTrap, decInstr, decPart, decGuest, decConf, decEvent, decVcpu, decStep, bytesS, boolS, eventsS, intsS, guestsS, vcpusS, rowS, castL, Option.bind_some, Option.map_some, Option.some.injEq, Nat.beq_refl, beq_self_eq_true, Bool.and_self, cond_true, cond_false, eq_self, beq_iff_eq, beq_eq_false_iff_ne, bne_iff_ne, bne_eq_false_iff_eq, ne_eq, decide_eq_true_eq, decide_eq_false_iff_not, ble_true, ble_false, inRange_iff, inRange_false, K.may, form_13, K.regOk, ew]
    clear out
    repeat' (first | refine drop_ok ?_ | intro _ | with_reducible apply And.intro)
    all_goals grind

  · rw [t_c_ref02_May_14, Tree.ends_holds]; simp only [Tree.holds_loop, Tree.holds_fork, Tree.holds_next, if_true, Tree.holds_cond, Tree.holds_letv, Tree.holds_leaf, Tree.holds_fail, decO, decA, decTup, decMach, decCore, decTrap, decInstr, decPart, decGuest, decConf, decEvent, decVcpu, decStep, bytesS, boolS, eventsS, intsS, guestsS, vcpusS, rowS, castL, Option.bind_some, Option.map_some, Option.some.injEq, Nat.beq_refl, beq_self_eq_true, Bool.and_self, cond_true, cond_false, eq_self, beq_iff_eq, beq_eq_false_iff_ne, bne_iff_ne, bne_eq_false_iff_eq, ne_eq, decide_eq_true_eq, decide_eq_false_iff_not, ble_true, ble_false, inRange_iff, inRange_false, K.may, form_14, K.regOk, ew]
    clear out
    repeat' (first | refine drop_ok ?_ | intro _ | with_reducible apply And.intro)
    all_goals grind

  · rw [t_c_ref02_May_15, Tree.ends_holds]; simp only [Tree.holds_loop, Tree.holds_fork, Tree.holds_next, if_true, Tree.holds_cond, Tree.holds_letv, Tree.holds_leaf, Tree.holds_fail, decO, decA, decTup, decMach, decCore, decTrap, decInstr, decPart, decGuest, decConf, decEvent, decVcpu, decStep, bytesS, boolS, eventsS, intsS, guestsS, vcpusS, rowS, castL, Option.bind_some, Option.map_some, Option.some.injEq, Nat.beq_refl, beq_self_eq_true, Bool.and_self, cond_true, cond_false, eq_self, beq_iff_eq, beq_eq_false_iff_ne, bne_iff_ne, bne_eq_false_iff_eq, ne_eq, decide_eq_true_eq, decide_eq_false_iff_not, ble_true, ble_false, inRange_iff, inRange_false, K.may, form_15, K.regOk, ew]
    clear out
    repeat' (first | refine drop_ok ?_ | intro _ | with_reducible apply And.intro)
    all_goals grind

  · rw [t_c_ref02_May_16, Tree.ends_holds]; simp only [Tree.holds_loop, Tree.holds_fork, Tree.holds_next, if_true, Tree.holds_cond, Tree.holds_letv, Tree.holds_leaf, Tree.holds_fail, decO, decA, decTup, decMach, decCore, decTrap, decInstr, decPart, decGuest, decConf, decEvent, decVcpu, decStep, bytesS, boolS, eventsS, intsS, guestsS, vcpusS, rowS, castL, Option.bind_some, Option.map_some, Option.some.injEq, Nat.beq_refl, beq_self_eq_true, Bool.and_self, cond_true, cond_false, eq_self, beq_iff_eq, beq_eq_false_iff_ne, bne_iff_ne, bne_eq_false_iff_eq, ne_eq, decide_eq_true_eq, decide_eq_false_iff_not, ble_true, ble_false, inRange_iff, inRange_false, K.may, form_16, K.regOk, ew]
    clear out
    repeat' (first | refine drop_ok ?_ | intro _ | with_reducible apply And.intro)
    all_goals grind

  · rw [t_c_ref02_May_17, Tree.ends_holds]; simp only [Tree.holds_loop, Tree.holds_fork, Tree.holds_next, if_true, Tree.holds_cond, Tree.holds_letv, Tree.holds_leaf, Tree.holds_fail, decO, decA, decTup, decMach, decCore, decTrap, decInstr, decPart, decGuest, decConf, decEvent, decVcpu, decStep, bytesS, boolS, eventsS, intsS, guestsS, vcpusS, rowS, castL, Option.bind_some, Option.map_some, Option.some.injEq, Nat.beq_refl, beq_self_eq_true, Bool.and_self, cond_true, cond_false, eq_self, beq_iff_eq, beq_eq_false_iff_ne, bne_iff_ne, bne_eq_false_iff_eq, ne_eq, decide_eq_true_eq, decide_eq_false_iff_not, ble_true, ble_false, inRange_iff, inRange_false, K.may, form_17, K.regOk, ew]
    clear out
    repeat' (first | refine drop_ok ?_ | intro _ | with_reducible apply And.intro)
    all_goals grind

  · rw [t_c_ref02_May_18, Tree.ends_holds]; simp only [Tree.holds_loop, Tree.holds_fork, Tree.holds_next, if_true, Tree.holds_cond, Tree.holds_letv, Tree.holds_leaf, Tree.holds_fail, decO, decA, decTup, decMach, decCore, decTrap, decInstr, decPart, decGuest, decConf, decEvent, decVcpu, decStep, bytesS, boolS, eventsS, intsS, guestsS, vcpusS, rowS, castL, Option.bind_some, Option.map_some, Option.some.injEq, Nat.beq_refl, beq_self_eq_true, Bool.and_self, cond_true, cond_false, eq_self, beq_iff_eq, beq_eq_false_iff_ne, bne_iff_ne, bne_eq_false_iff_eq, ne_eq, decide_eq_true_eq, decide_eq_false_iff_not, ble_true, ble_false, inRange_iff, inRange_false, K.may, form_18, K.regOk, ew]
    clear out
    repeat' (first | refine drop_ok ?_ | intro _ | with_reducible apply And.intro)
    all_goals grind

  · rw [t_c_ref02_May_19, Tree.ends_holds]; simp only [Tree.holds_loop, Tree.holds_fork, Tree.holds_next, if_true, Tree.holds_cond, Tree.holds_letv, Tree.holds_leaf, Tree.holds_fail, decO, decA, decTup, decMach, decCore, decTrap, decInstr, decPart, decGuest, decConf, decEvent, decVcpu, decStep, bytesS, boolS, eventsS, intsS, guestsS, vcpusS, rowS, castL, Option.bind_some, Option.map_some, Option.some.injEq, Nat.beq_refl, beq_self_eq_true, Bool.and_self, cond_true, cond_false, eq_self, beq_iff_eq, beq_eq_false_iff_ne, bne_iff_ne, bne_eq_false_iff_eq, ne_eq, decide_eq_true_eq, decide_eq_false_iff_not, ble_true, ble_false, inRange_iff, inRange_false, K.may, form_19, K.regOk, ew]
    clear out
    repeat' (first | refine drop_ok ?_ | intro _ | with_reducible apply And.intro)
    all_goals grind

  · rw [t_c_ref02_May_20, Tree.ends_holds]; simp only [Tree.holds_loop, Tree.holds_fork, Tree.holds_next, if_true, Tree.holds_cond, Tree.holds_letv, Tree.holds_leaf, Tree.holds_fail, decO, decA, decTup, decMach, decCore, decTrap, decInstr, decPart, decGuest, decConf, decEvent, decVcpu, decStep, bytesS, boolS, eventsS, intsS, guestsS, vcpusS, rowS, castL, Option.bind_some, Option.map_some, Option.some.injEq, Nat.beq_refl, beq_self_eq_true, Bool.and_self, cond_true, cond_false, eq_self, beq_iff_eq, beq_eq_false_iff_ne, bne_iff_ne, bne_eq_false_iff_eq, ne_eq, decide_eq_true_eq, decide_eq_false_iff_not, ble_true, ble_false, inRange_iff, inRange_false, K.may, form_20, K.regOk, ew]
    clear out
    repeat' (first | refine drop_ok ?_ | intro _ | with_reducible apply And.intro)
    all_goals grind

  · rw [t_c_ref02_May_21, Tree.ends_holds]; simp only [Tree.holds_loop, Tree.holds_fork, Tree.holds_next, if_true, Tree.holds_cond, Tree.holds_letv, Tree.holds_leaf, Tree.holds_fail, decO, decA, decTup, decMach, decCore, decTrap, decInstr, decPart, decGuest, decConf, decEvent, decVcpu, decStep, bytesS, boolS, eventsS, intsS, guestsS, vcpusS, rowS, castL, Option.bind_some, Option.map_some, Option.some.injEq, Nat.beq_refl, beq_self_eq_true, Bool.and_self, cond_true, cond_false, eq_self, beq_iff_eq, beq_eq_false_iff_ne, bne_iff_ne, bne_eq_false_iff_eq, ne_eq, decide_eq_true_eq, decide_eq_false_iff_not, ble_true, ble_false, inRange_iff, inRange_false, K.may, form_21, K.regOk, ew]
    clear out
    repeat' (first | refine drop_ok ?_ | intro _ | with_reducible apply And.intro)
    all_goals grind

  · rw [t_c_ref02_May_22, Tree.ends_holds]; simp only [Tree.holds_loop, Tree.holds_fork, Tree.holds_next, if_true, Tree.holds_cond, Tree.holds_letv, Tree.holds_leaf, Tree.holds_fail, decO, decA, decTup, decMach, decCore, decTrap, decInstr, decPart, decGuest, decConf, decEvent, decVcpu, decStep, bytesS, boolS, eventsS, intsS, guestsS, vcpusS, rowS, castL, Option.bind_some, Option.map_some, Option.some.injEq, Nat.beq_refl, beq_self_eq_true, Bool.and_self, cond_true, cond_false, eq_self, beq_iff_eq, beq_eq_false_iff_ne, bne_iff_ne, bne_eq_false_iff_eq, ne_eq, decide_eq_true_eq, decide_eq_false_iff_not, ble_true, ble_false, inRange_iff, inRange_false, K.may, form_22, K.regOk, ew]
    clear out
    repeat' (first | refine drop_ok ?_ | intro _ | with_reducible apply And.intro)
    all_goals grind

  · rw [t_c_ref02_May_23, Tree.ends_holds]; simp only [Tree.holds_loop, Tree.holds_fork, Tree.holds_next, if_true, Tree.holds_cond, Tree.holds_letv, Tree.holds_leaf, Tree.holds_fail, decO, decA, decTup, decMach, decCore, decTrap, decInstr, decPart, decGuest, decConf, decEvent, decVcpu, decStep, bytesS, boolS, eventsS, intsS, guestsS, vcpusS, rowS, castL, Option.bind_some, Option.map_some, Option.some.injEq, Nat.beq_refl, beq_self_eq_true, Bool.and_self, cond_true, cond_false, eq_self, beq_iff_eq, beq_eq_false_iff_ne, bne_iff_ne, bne_eq_false_iff_eq, ne_eq, decide_eq_true_eq, decide_eq_false_iff_not, ble_true, ble_false, inRange_iff, inRange_false, K.may, form_23, K.regOk, ew]
    clear out
    repeat' (first | refine drop_ok ?_ | intro _ | with_reducible apply And.intro)
    all_goals grind

  · rw [t_c_ref02_May_24, Tree.ends_holds]; simp only [Tree.holds_loop, Tree.holds_fork, Tree.holds_next, if_true, Tree.holds_cond, Tree.holds_letv, Tree.holds_leaf, Tree.holds_fail, decO, decA, decTup, decMach, decCore, decTrap, decInstr, decPart, decGuest, decConf, decEvent, decVcpu, decStep, bytesS, boolS, eventsS, intsS, guestsS, vcpusS, rowS, castL, Option.bind_some, Option.map_some, Option.some.injEq, Nat.beq_refl, beq_self_eq_true, Bool.and_self, cond_true, cond_false, eq_self, beq_iff_eq, beq_eq_false_iff_ne, bne_iff_ne, bne_eq_false_iff_eq, ne_eq, decide_eq_true_eq, decide_eq_false_iff_not, ble_true, ble_false, inRange_iff, inRange_false, K.may, form_24, K.regOk, ew]
    clear out
    repeat' (first | refine drop_ok ?_ | intro _ | with_reducible apply And.intro)
    all_goals grind

  · rw [t_c_ref02_May_25, Tree.ends_holds]; simp only [Tree.holds_loop, Tree.holds_fork, Tree.holds_next, if_true, Tree.holds_cond, Tree.holds_letv, Tree.holds_leaf, Tree.holds_fail, decO, decA, decTup, decMach, decCore, decTrap, decInstr, decPart, decGuest, decConf, decEvent, decVcpu, decStep, bytesS, boolS, eventsS, intsS, guestsS, vcpusS, rowS, castL, Option.bind_some, Option.map_some, Option.some.injEq, Nat.beq_refl, beq_self_eq_true, Bool.and_self, cond_true, cond_false, eq_self, beq_iff_eq, beq_eq_false_iff_ne, bne_iff_ne, bne_eq_false_iff_eq, ne_eq, decide_eq_true_eq, decide_eq_false_iff_not, ble_true, ble_false, inRange_iff, inRange_false, K.may, form_25, K.regOk, ew]
    clear out
    repeat' (first | refine drop_ok ?_ | intro _ | with_reducible apply And.intro)
    all_goals grind

theorem c_ref02_May : SpecOk EB 55 S_ref02_May := spec_sig ok_ref02_May (n := 60) fun ⟨i, ⟨⟩⟩ h hok => a_c_ref02_May i (ok_instr (okSL_head hok))


/-! ref01_Low -/

def S_ref01_Low : Spec := sig [.i .i32, .i .i64] [.i .u32] (fun (v, n, _) => v % 262144) (pre := fun (v, n, _) => decide (n = 18))
noncomputable def E_ref01_Low : Env := EB.adds [(98, S_ref01_Pow)]

theorem ok_ref01_Low : EnvOk E_ref01_Low := okEB.adds (l := _) ⟨c_ref01_Pow, trivial⟩

theorem t_ref01_Low (v : Int) (n : Int) : evF E_ref01_Low 60 56 (encArgs [.i .i32, .i .i64] (v, n, ())) = 
 bif (decide ((IntKind.wrap IntKind.i64 v) < (0 : Int))) then
 (bif (decide (n ≤ (63 : Int))) then
 (Tree.letv (okO [(AT.i IntKind.u64)]) (K.pow n) fun x0 =>
 (bif (bne x0 (0 : Int)) then
 (Tree.leaf (SV.v (Value.int IntKind.u32 (IntKind.wrap IntKind.u32 (Int.tmod (IntKind.wrap IntKind.u64 (IntKind.wrap IntKind.i64 ((IntKind.wrap IntKind.i64 v) + (4294967296 : Int)))) x0)))))
 else
 (Tree.fail)))
 else
 (Tree.fail))
 else
 (bif (decide (n ≤ (63 : Int))) then
 (Tree.letv (okO [(AT.i IntKind.u64)]) (K.pow n) fun x0 =>
 (bif (bne x0 (0 : Int)) then
 (Tree.leaf (SV.v (Value.int IntKind.u32 (IntKind.wrap IntKind.u32 (Int.tmod (IntKind.wrap IntKind.u64 (IntKind.wrap IntKind.i64 v)) x0)))))
 else
 (Tree.fail)))
 else
 (Tree.fail)) := by kernel_rfl
section
attribute [local irreducible] evF evFL evFLs evFM
theorem a_ref01_Low (v : Int) (n : Int) (hpre : n = 18) (ok_v : okI .i32 v) (ok_n : okI .i64 n) : (evF E_ref01_Low 60 56 (encArgs [.i .i32, .i .i64] (v, n, ()))).ends fun out_ => decO [.i .u32] out_ = some (v % 262144) := by
  rw [t_ref01_Low, Tree.ends_holds]
  obtain ⟨v0, v1⟩ := okI_i32 ok_v
  subst hpre
  have e0 : IntKind.i64.wrap v = v := wrapI64 (by omega) (by omega)
  have e1 : K.pow 18 = 262144 := by decide
  have e3 : IntKind.i64.wrap (v + 4294967296) = v + 4294967296 := wrapI64 (by omega) (by omega)
  simp only [Tree.holds_loop, Tree.holds_fork, Tree.holds_next, if_true, Tree.holds_cond, Tree.holds_letv, Tree.holds_leaf, Tree.holds_fail, decO, decA, decTup, decMach, decCore, decTrap, decInstr, decPart, decGuest, decConf, decEvent, decVcpu, decStep, bytesS, boolS, eventsS, intsS, guestsS, vcpusS, rowS, castL, Option.bind_some, Option.map_some, Option.some.injEq, Nat.beq_refl, beq_self_eq_true, Bool.and_self, cond_true, cond_false, eq_self, beq_iff_eq, beq_eq_false_iff_ne, bne_iff_ne, bne_eq_false_iff_eq, ne_eq, decide_eq_true_eq, decide_eq_false_iff_not, ble_true, ble_false, inRange_iff, inRange_false, e0, e1, e3, wrap32, wrap64]
  have t1 : Int.tmod (v % 18446744073709551616) 262144 % 4294967296 = v % 262144 := by rw [Int.tmod_eq_emod_of_nonneg (by omega)]; omega
  have t2 : Int.tmod ((v + 4294967296) % 18446744073709551616) 262144 % 4294967296 = v % 262144 := by rw [Int.tmod_eq_emod_of_nonneg (by omega)]; omega
  simp only [t1, t2]
  repeat' (first | refine drop_ok ?_ | intro _ | with_reducible apply And.intro)
  all_goals first | omega | (simp_all; done)
  
theorem c_ref01_Low : SpecOk EB 56 S_ref01_Low := spec_sig ok_ref01_Low (n := 60) fun ⟨v, n, ⟨⟩⟩ h hok => a_ref01_Low v n (of_decide_eq_true h) (ok_int (okSL_head hok)) (ok_int (okSL_head (okSL_tail hok)))
end

/-! ref02_Encode -/

def S_ref02_Encode : Spec := sig [.instr] [.i .u32, .b] (fun (i, _) => K.encode i)
noncomputable def E_ref02_Encode : Env := EB.adds [(55, S_ref02_May), (57, S_ref02_Form), (56, S_ref01_Low)]

theorem ok_ref02_Encode : EnvOk E_ref02_Encode := okEB.adds (l := _) ⟨c_ref02_May, c_ref02_Form, c_ref01_Low, trivial⟩

theorem t_ref02_Encode (i : PInstr) : evF E_ref02_Encode 60 29 (encArgs [.instr] (i, ())) = 
 Tree.letv (okO [AT.b]) (K.may i) fun x0 =>
 (bif x0 then
 (Tree.letv (okO [(AT.i IntKind.u32)]) (i.imm % (262144 : Int)) fun x1 =>
 (Tree.letv (okO [(AT.i IntKind.i64)]) (K.form i.op) fun x2 =>
 (bif (BEq.beq x2 (1 : Int)) then
 (Tree.leaf (SV.tup [(SV.v (Value.int IntKind.u32 (IntKind.wrap IntKind.u32 (IntKind.wrap IntKind.u64 ((IntKind.wrap IntKind.u64 ((IntKind.wrap IntKind.u64 ((IntKind.wrap IntKind.u64 ((IntKind.wrap IntKind.u64 i.op) * (67108864 : Int))) + (IntKind.wrap IntKind.u64 ((IntKind.wrap IntKind.u64 i.rd) * (4194304 : Int))))) + (IntKind.wrap IntKind.u64 ((IntKind.wrap IntKind.u64 i.ra) * (262144 : Int))))) + (IntKind.wrap IntKind.u64 i.rb)))))), (SV.b true)]))
 else
 (Tree.leaf (SV.tup [(SV.v (Value.int IntKind.u32 (IntKind.wrap IntKind.u32 (IntKind.wrap IntKind.u64 ((IntKind.wrap IntKind.u64 ((IntKind.wrap IntKind.u64 ((IntKind.wrap IntKind.u64 ((IntKind.wrap IntKind.u64 i.op) * (67108864 : Int))) + (IntKind.wrap IntKind.u64 ((IntKind.wrap IntKind.u64 i.rd) * (4194304 : Int))))) + (IntKind.wrap IntKind.u64 ((IntKind.wrap IntKind.u64 i.ra) * (262144 : Int))))) + (IntKind.wrap IntKind.u64 x1)))))), (SV.b true)])))))
 else
 (Tree.leaf (SV.tup [(SV.v (Value.int IntKind.u32 (0 : Int))), (SV.b false)]))) := by kernel_rfl
section
attribute [local irreducible] evF evFL evFLs evFM
theorem a_ref02_Encode (i : PInstr) (ok_i : okInstr i) : (evF E_ref02_Encode 60 29 (encArgs [.instr] (i, ()))).ends fun out_ => decO [.i .u32, .b] out_ = some (K.encode i) := by
  rw [t_ref02_Encode, Tree.ends_holds]
  simp only [Tree.holds_loop, Tree.holds_fork, Tree.holds_next, if_true, Tree.holds_cond, Tree.holds_letv, Tree.holds_leaf, Tree.holds_fail, decO, decA, decTup, decMach, decCore, decTrap, decInstr, decPart, decGuest, decConf, decEvent, decVcpu, decStep, bytesS, boolS, eventsS, intsS, guestsS, vcpusS, rowS, castL, Option.bind_some, Option.map_some, Option.some.injEq, Nat.beq_refl, beq_self_eq_true, Bool.and_self, cond_true, cond_false, eq_self, beq_iff_eq, beq_eq_false_iff_ne, bne_iff_ne, bne_eq_false_iff_eq, ne_eq, decide_eq_true_eq, decide_eq_false_iff_not, ble_true, ble_false, inRange_iff, inRange_false, wrap32, wrap64]
  unfold K.encode
  have key := fun h => K.may_of (i := i) h
  have pk := fun h => K.word_range (i := i) h
  unfold K.word at *
  repeat' (first | refine drop_ok ?_ | intro _ | with_reducible apply And.intro)
  all_goals first | (rename_i h; rw [if_neg (by simp [h])]; done) | skip
  all_goals
    have hm := key (by assumption)
    have hw := pk hm
    obtain ⟨⟨a, b⟩, ⟨c, d⟩, ⟨e, f⟩, ⟨g, j⟩, ⟨k, l⟩, one, two⟩ := hm
    rw [if_pos (by assumption)]
    simp only [Prod.mk.injEq, and_true]
    clear key pk one two
    by_cases h1 : K.form i.op = 1
    · first | contradiction | (simp only [if_pos h1] at hw ⊢; show @Eq Int _ _; omega)
    · first | contradiction | (simp only [if_neg h1] at hw ⊢; show @Eq Int _ _; omega)
  
theorem c_ref02_Encode : SpecOk EB 29 S_ref02_Encode := spec_sig ok_ref02_Encode (n := 60) fun ⟨i, ⟨⟩⟩ h hok => a_ref02_Encode i (ok_instr (okSL_head hok))
end


end Go.Proofs.YtchljgmcempedaaGreatDoor
