/- Contracts of functions, by evaluation (nothing is claimed here). -/
import Derived.Test.YtchljgmcempedaaDoorSh34
import Derived.KernelRfl
import Derived.Test.YtchljgmcempedaaDoorProg
import Derived.Test.YtchljgmcempedaaDoorRunsDoNotModifyB2
set_option linter.unusedVariables false
set_option linter.unusedSimpArgs false
set_option maxRecDepth 100000
set_option maxHeartbeats 1000000
namespace Go.Proofs.YtchljgmcempedaaDoor
open Go
/-! exec_Execute -/

def S_exec_Execute : Spec := sig [.mach, .instr] [.mach, .trap] (fun (m, i, _) => K.exec m i) (pre := fun (m, i, _) => decide (1 ≤ i.op ∧ i.op ≤ 20 ∧ m.mem.length ≤ 1099511627776))
noncomputable def E_exec_Execute : Env := EB_1_2.adds [(60, S_regs_Get), (62, S_regs_Set), (65, S_exec_Advance), (90, S_alu_Eval), (88, S_alu_BranchTaken), (75, S_fetch_Load), (87, S_fetch_Store), (73, S_isa_FormatOf), (85, S_exec_at), (86, S_exec_size), (89, S_exec_far)]

theorem ok_exec_Execute : EnvOk E_exec_Execute := okEB_1_2.adds (l := _) ⟨(up_to_1_2 c_regs_Get), (up_to_1_2 c_regs_Set), (up_to_1_2 c_exec_Advance), (up_to_1_2 c_alu_Eval), (up_to_1_2 c_alu_BranchTaken), (up_2_to_1_2 c_fetch_Load), (up_2_to_1_2 c_fetch_Store), (up_1_to_1_2 c_isa_FormatOf), (up_to_1_2 c_exec_at), (up_to_1_2 c_exec_size), (up_to_1_2 c_exec_far), trivial⟩

theorem t_exec_Execute (m : PMach) (i : PInstr) : evF E_exec_Execute 60 50 (encArgs [.mach, .instr] (m, i, ())) = 
 Tree.letv (okO [(AT.i IntKind.u32)]) (K.get m.core.regs i.ra) fun x0 =>
 (Tree.letv (okO [(AT.i IntKind.u32)]) (K.get m.core.regs i.rb) fun x1 =>
 (Tree.letv (okO [(AT.i IntKind.u32)]) (K.get m.core.regs i.rd) fun x2 =>
 (bif (BEq.beq i.op (9 : Int)) then
 (Tree.letv (okO [(AT.i IntKind.u32)]) ((x0 + (i.imm % (4294967296 : Int))) % (4294967296 : Int)) fun x3 =>
 (Tree.letv (okO [(AT.a IntKind.u32 16)]) (K.put m.core.regs i.rd x3) fun x4 =>
 (Tree.letv (okO [AT.core]) (PCore.mk x4 ((m.core.pc + (4 : Int)) % (4294967296 : Int)) m.core.csr) fun x5 =>
 (Tree.leaf (SV.tup [(SV.agg [(SV.arr IntKind.u32 16 x5.regs), (SV.v (Value.int IntKind.u32 x5.pc)), (SV.arr IntKind.u32 12 x5.csr), (SV.rd ETy.u8 m.mem), (SV.v (Value.int IntKind.u64 m.time)), (SV.rd ETy.u8 m.out), (SV.v (Value.bool m.halted))]), (SV.agg [(SV.v (Value.int IntKind.i64 (0 : Int))), (SV.v (Value.int IntKind.u32 (0 : Int)))])])))))
 else
 (bif (BEq.beq i.op (10 : Int)) then
 (Tree.letv (okO [(AT.a IntKind.u32 16)]) (K.put m.core.regs i.rd (IntKind.wrap IntKind.u32 ((IntKind.wrap IntKind.u32 i.imm) * (16384 : Int)))) fun x3 =>
 (Tree.letv (okO [AT.core]) (PCore.mk x3 ((m.core.pc + (4 : Int)) % (4294967296 : Int)) m.core.csr) fun x4 =>
 (Tree.leaf (SV.tup [(SV.agg [(SV.arr IntKind.u32 16 x4.regs), (SV.v (Value.int IntKind.u32 x4.pc)), (SV.arr IntKind.u32 12 x4.csr), (SV.rd ETy.u8 m.mem), (SV.v (Value.int IntKind.u64 m.time)), (SV.rd ETy.u8 m.out), (SV.v (Value.bool m.halted))]), (SV.agg [(SV.v (Value.int IntKind.i64 (0 : Int))), (SV.v (Value.int IntKind.u32 (0 : Int)))])]))))
 else
 (bif (BEq.beq i.op (11 : Int)) then
 (Tree.letv (okO [(AT.i IntKind.u32)]) ((x0 + (i.imm % (4294967296 : Int))) % (4294967296 : Int)) fun x3 =>
 (Tree.letv (okO [(AT.i IntKind.i64)]) (if (Or (i.op = (13 : Int)) (i.op = (14 : Int))) then (1 : Int) else (4 : Int)) fun x4 =>
 (bif (decide (Or (x4 = (1 : Int)) (x4 = (4 : Int)))) then
 (Tree.letv (okO [(AT.i IntKind.u32), AT.trap]) (K.load m x3 x4) fun x5 =>
 (bif (BEq.beq x5.snd.cause (0 : Int)) then
 (Tree.letv (okO [(AT.a IntKind.u32 16)]) (K.put m.core.regs i.rd x5.fst) fun x6 =>
 (Tree.letv (okO [AT.core]) (PCore.mk x6 ((m.core.pc + (4 : Int)) % (4294967296 : Int)) m.core.csr) fun x7 =>
 (Tree.leaf (SV.tup [(SV.agg [(SV.arr IntKind.u32 16 x7.regs), (SV.v (Value.int IntKind.u32 x7.pc)), (SV.arr IntKind.u32 12 x7.csr), (SV.rd ETy.u8 m.mem), (SV.v (Value.int IntKind.u64 m.time)), (SV.rd ETy.u8 m.out), (SV.v (Value.bool m.halted))]), (SV.agg [(SV.v (Value.int IntKind.i64 x5.snd.cause)), (SV.v (Value.int IntKind.u32 x5.snd.tval))])]))))
 else
 (Tree.leaf (SV.tup [(SV.agg [(SV.arr IntKind.u32 16 m.core.regs), (SV.v (Value.int IntKind.u32 m.core.pc)), (SV.arr IntKind.u32 12 m.core.csr), (SV.rd ETy.u8 m.mem), (SV.v (Value.int IntKind.u64 m.time)), (SV.rd ETy.u8 m.out), (SV.v (Value.bool m.halted))]), (SV.agg [(SV.v (Value.int IntKind.i64 x5.snd.cause)), (SV.v (Value.int IntKind.u32 x5.snd.tval))])]))))
 else
 (Tree.fail))))
 else
 (bif (BEq.beq i.op (13 : Int)) then
 (Tree.letv (okO [(AT.i IntKind.u32)]) ((x0 + (i.imm % (4294967296 : Int))) % (4294967296 : Int)) fun x3 =>
 (Tree.letv (okO [(AT.i IntKind.i64)]) (if (Or (i.op = (13 : Int)) (i.op = (14 : Int))) then (1 : Int) else (4 : Int)) fun x4 =>
 (bif (decide (Or (x4 = (1 : Int)) (x4 = (4 : Int)))) then
 (Tree.letv (okO [(AT.i IntKind.u32), AT.trap]) (K.load m x3 x4) fun x5 =>
 (bif (BEq.beq x5.snd.cause (0 : Int)) then
 (Tree.letv (okO [(AT.a IntKind.u32 16)]) (K.put m.core.regs i.rd x5.fst) fun x6 =>
 (Tree.letv (okO [AT.core]) (PCore.mk x6 ((m.core.pc + (4 : Int)) % (4294967296 : Int)) m.core.csr) fun x7 =>
 (Tree.leaf (SV.tup [(SV.agg [(SV.arr IntKind.u32 16 x7.regs), (SV.v (Value.int IntKind.u32 x7.pc)), (SV.arr IntKind.u32 12 x7.csr), (SV.rd ETy.u8 m.mem), (SV.v (Value.int IntKind.u64 m.time)), (SV.rd ETy.u8 m.out), (SV.v (Value.bool m.halted))]), (SV.agg [(SV.v (Value.int IntKind.i64 x5.snd.cause)), (SV.v (Value.int IntKind.u32 x5.snd.tval))])]))))
 else
 (Tree.leaf (SV.tup [(SV.agg [(SV.arr IntKind.u32 16 m.core.regs), (SV.v (Value.int IntKind.u32 m.core.pc)), (SV.arr IntKind.u32 12 m.core.csr), (SV.rd ETy.u8 m.mem), (SV.v (Value.int IntKind.u64 m.time)), (SV.rd ETy.u8 m.out), (SV.v (Value.bool m.halted))]), (SV.agg [(SV.v (Value.int IntKind.i64 x5.snd.cause)), (SV.v (Value.int IntKind.u32 x5.snd.tval))])]))))
 else
 (Tree.fail))))
 else
 (bif (BEq.beq i.op (12 : Int)) then
 (Tree.letv (okO [(AT.i IntKind.u32)]) ((x0 + (i.imm % (4294967296 : Int))) % (4294967296 : Int)) fun x3 =>
 (Tree.letv (okO [(AT.i IntKind.i64)]) (if (Or (i.op = (13 : Int)) (i.op = (14 : Int))) then (1 : Int) else (4 : Int)) fun x4 =>
 (bif (decide (And (Or (x4 = (1 : Int)) (x4 = (4 : Int))) ((List.length m.mem) ≤ 1099511627776))) then
 (Tree.letv (okO [AT.mach, AT.trap]) (K.store m x3 x4 x2) fun x5 =>
 (bif (BEq.beq x5.snd.cause (0 : Int)) then
 (Tree.letv (okO [AT.core]) (PCore.mk x5.fst.core.regs ((x5.fst.core.pc + (4 : Int)) % (4294967296 : Int)) x5.fst.core.csr) fun x6 =>
 (Tree.leaf (SV.tup [(SV.agg [(SV.arr IntKind.u32 16 x6.regs), (SV.v (Value.int IntKind.u32 x6.pc)), (SV.arr IntKind.u32 12 x6.csr), (SV.rd ETy.u8 x5.fst.mem), (SV.v (Value.int IntKind.u64 x5.fst.time)), (SV.rd ETy.u8 x5.fst.out), (SV.v (Value.bool x5.fst.halted))]), (SV.agg [(SV.v (Value.int IntKind.i64 x5.snd.cause)), (SV.v (Value.int IntKind.u32 x5.snd.tval))])])))
 else
 (Tree.leaf (SV.tup [(SV.agg [(SV.arr IntKind.u32 16 m.core.regs), (SV.v (Value.int IntKind.u32 m.core.pc)), (SV.arr IntKind.u32 12 m.core.csr), (SV.rd ETy.u8 m.mem), (SV.v (Value.int IntKind.u64 m.time)), (SV.rd ETy.u8 m.out), (SV.v (Value.bool m.halted))]), (SV.agg [(SV.v (Value.int IntKind.i64 x5.snd.cause)), (SV.v (Value.int IntKind.u32 x5.snd.tval))])]))))
 else
 (Tree.fail))))
 else
 (bif (BEq.beq i.op (14 : Int)) then
 (Tree.letv (okO [(AT.i IntKind.u32)]) ((x0 + (i.imm % (4294967296 : Int))) % (4294967296 : Int)) fun x3 =>
 (Tree.letv (okO [(AT.i IntKind.i64)]) (if (Or (i.op = (13 : Int)) (i.op = (14 : Int))) then (1 : Int) else (4 : Int)) fun x4 =>
 (bif (decide (And (Or (x4 = (1 : Int)) (x4 = (4 : Int))) ((List.length m.mem) ≤ 1099511627776))) then
 (Tree.letv (okO [AT.mach, AT.trap]) (K.store m x3 x4 x2) fun x5 =>
 (bif (BEq.beq x5.snd.cause (0 : Int)) then
 (Tree.letv (okO [AT.core]) (PCore.mk x5.fst.core.regs ((x5.fst.core.pc + (4 : Int)) % (4294967296 : Int)) x5.fst.core.csr) fun x6 =>
 (Tree.leaf (SV.tup [(SV.agg [(SV.arr IntKind.u32 16 x6.regs), (SV.v (Value.int IntKind.u32 x6.pc)), (SV.arr IntKind.u32 12 x6.csr), (SV.rd ETy.u8 x5.fst.mem), (SV.v (Value.int IntKind.u64 x5.fst.time)), (SV.rd ETy.u8 x5.fst.out), (SV.v (Value.bool x5.fst.halted))]), (SV.agg [(SV.v (Value.int IntKind.i64 x5.snd.cause)), (SV.v (Value.int IntKind.u32 x5.snd.tval))])])))
 else
 (Tree.leaf (SV.tup [(SV.agg [(SV.arr IntKind.u32 16 m.core.regs), (SV.v (Value.int IntKind.u32 m.core.pc)), (SV.arr IntKind.u32 12 m.core.csr), (SV.rd ETy.u8 m.mem), (SV.v (Value.int IntKind.u64 m.time)), (SV.rd ETy.u8 m.out), (SV.v (Value.bool m.halted))]), (SV.agg [(SV.v (Value.int IntKind.i64 x5.snd.cause)), (SV.v (Value.int IntKind.u32 x5.snd.tval))])]))))
 else
 (Tree.fail))))
 else
 (bif (BEq.beq i.op (15 : Int)) then
 (Tree.letv (okO [AT.b]) (K.taken i.op x2 x0) fun x3 =>
 (bif x3 then
 (Tree.letv (okO [(AT.i IntKind.u32)]) (((4 : Int) * (i.imm % (4294967296 : Int))) % (4294967296 : Int)) fun x4 =>
 (Tree.letv (okO [AT.core]) (PCore.mk m.core.regs ((m.core.pc + x4) % (4294967296 : Int)) m.core.csr) fun x5 =>
 (Tree.leaf (SV.tup [(SV.agg [(SV.arr IntKind.u32 16 x5.regs), (SV.v (Value.int IntKind.u32 x5.pc)), (SV.arr IntKind.u32 12 x5.csr), (SV.rd ETy.u8 m.mem), (SV.v (Value.int IntKind.u64 m.time)), (SV.rd ETy.u8 m.out), (SV.v (Value.bool m.halted))]), (SV.agg [(SV.v (Value.int IntKind.i64 (0 : Int))), (SV.v (Value.int IntKind.u32 (0 : Int)))])]))))
 else
 (Tree.letv (okO [AT.core]) (PCore.mk m.core.regs ((m.core.pc + (4 : Int)) % (4294967296 : Int)) m.core.csr) fun x4 =>
 (Tree.leaf (SV.tup [(SV.agg [(SV.arr IntKind.u32 16 x4.regs), (SV.v (Value.int IntKind.u32 x4.pc)), (SV.arr IntKind.u32 12 x4.csr), (SV.rd ETy.u8 m.mem), (SV.v (Value.int IntKind.u64 m.time)), (SV.rd ETy.u8 m.out), (SV.v (Value.bool m.halted))]), (SV.agg [(SV.v (Value.int IntKind.i64 (0 : Int))), (SV.v (Value.int IntKind.u32 (0 : Int)))])])))))
 else
 (bif (BEq.beq i.op (16 : Int)) then
 (Tree.letv (okO [AT.b]) (K.taken i.op x2 x0) fun x3 =>
 (bif x3 then
 (Tree.letv (okO [(AT.i IntKind.u32)]) (((4 : Int) * (i.imm % (4294967296 : Int))) % (4294967296 : Int)) fun x4 =>
 (Tree.letv (okO [AT.core]) (PCore.mk m.core.regs ((m.core.pc + x4) % (4294967296 : Int)) m.core.csr) fun x5 =>
 (Tree.leaf (SV.tup [(SV.agg [(SV.arr IntKind.u32 16 x5.regs), (SV.v (Value.int IntKind.u32 x5.pc)), (SV.arr IntKind.u32 12 x5.csr), (SV.rd ETy.u8 m.mem), (SV.v (Value.int IntKind.u64 m.time)), (SV.rd ETy.u8 m.out), (SV.v (Value.bool m.halted))]), (SV.agg [(SV.v (Value.int IntKind.i64 (0 : Int))), (SV.v (Value.int IntKind.u32 (0 : Int)))])]))))
 else
 (Tree.letv (okO [AT.core]) (PCore.mk m.core.regs ((m.core.pc + (4 : Int)) % (4294967296 : Int)) m.core.csr) fun x4 =>
 (Tree.leaf (SV.tup [(SV.agg [(SV.arr IntKind.u32 16 x4.regs), (SV.v (Value.int IntKind.u32 x4.pc)), (SV.arr IntKind.u32 12 x4.csr), (SV.rd ETy.u8 m.mem), (SV.v (Value.int IntKind.u64 m.time)), (SV.rd ETy.u8 m.out), (SV.v (Value.bool m.halted))]), (SV.agg [(SV.v (Value.int IntKind.i64 (0 : Int))), (SV.v (Value.int IntKind.u32 (0 : Int)))])])))))
 else
 (bif (BEq.beq i.op (17 : Int)) then
 (Tree.letv (okO [AT.b]) (K.taken i.op x2 x0) fun x3 =>
 (bif x3 then
 (Tree.letv (okO [(AT.i IntKind.u32)]) (((4 : Int) * (i.imm % (4294967296 : Int))) % (4294967296 : Int)) fun x4 =>
 (Tree.letv (okO [AT.core]) (PCore.mk m.core.regs ((m.core.pc + x4) % (4294967296 : Int)) m.core.csr) fun x5 =>
 (Tree.leaf (SV.tup [(SV.agg [(SV.arr IntKind.u32 16 x5.regs), (SV.v (Value.int IntKind.u32 x5.pc)), (SV.arr IntKind.u32 12 x5.csr), (SV.rd ETy.u8 m.mem), (SV.v (Value.int IntKind.u64 m.time)), (SV.rd ETy.u8 m.out), (SV.v (Value.bool m.halted))]), (SV.agg [(SV.v (Value.int IntKind.i64 (0 : Int))), (SV.v (Value.int IntKind.u32 (0 : Int)))])]))))
 else
 (Tree.letv (okO [AT.core]) (PCore.mk m.core.regs ((m.core.pc + (4 : Int)) % (4294967296 : Int)) m.core.csr) fun x4 =>
 (Tree.leaf (SV.tup [(SV.agg [(SV.arr IntKind.u32 16 x4.regs), (SV.v (Value.int IntKind.u32 x4.pc)), (SV.arr IntKind.u32 12 x4.csr), (SV.rd ETy.u8 m.mem), (SV.v (Value.int IntKind.u64 m.time)), (SV.rd ETy.u8 m.out), (SV.v (Value.bool m.halted))]), (SV.agg [(SV.v (Value.int IntKind.i64 (0 : Int))), (SV.v (Value.int IntKind.u32 (0 : Int)))])])))))
 else
 (bif (BEq.beq i.op (18 : Int)) then
 (Tree.letv (okO [(AT.i IntKind.u32)]) (((4 : Int) * (i.imm % (4294967296 : Int))) % (4294967296 : Int)) fun x3 =>
 (bif (BEq.beq i.op (19 : Int)) then
 (Tree.letv (okO [(AT.i IntKind.u32)]) ((x0 + (i.imm % (4294967296 : Int))) % (4294967296 : Int)) fun x4 =>
 (Tree.letv (okO [(AT.a IntKind.u32 16)]) (K.put m.core.regs i.rd (IntKind.wrap IntKind.u32 (m.core.pc + (4 : Int)))) fun x5 =>
 (Tree.letv (okO [AT.core]) (PCore.mk x5 ((m.core.pc + (4 : Int)) % (4294967296 : Int)) m.core.csr) fun x6 =>
 (Tree.leaf (SV.tup [(SV.agg [(SV.arr IntKind.u32 16 x6.regs), (SV.v (Value.int IntKind.u32 x4)), (SV.arr IntKind.u32 12 x6.csr), (SV.rd ETy.u8 m.mem), (SV.v (Value.int IntKind.u64 m.time)), (SV.rd ETy.u8 m.out), (SV.v (Value.bool m.halted))]), (SV.agg [(SV.v (Value.int IntKind.i64 (0 : Int))), (SV.v (Value.int IntKind.u32 (0 : Int)))])])))))
 else
 (Tree.letv (okO [(AT.a IntKind.u32 16)]) (K.put m.core.regs i.rd (IntKind.wrap IntKind.u32 (m.core.pc + (4 : Int)))) fun x4 =>
 (Tree.letv (okO [AT.core]) (PCore.mk x4 ((m.core.pc + (4 : Int)) % (4294967296 : Int)) m.core.csr) fun x5 =>
 (Tree.leaf (SV.tup [(SV.agg [(SV.arr IntKind.u32 16 x5.regs), (SV.v (Value.int IntKind.u32 (IntKind.wrap IntKind.u32 (m.core.pc + x3)))), (SV.arr IntKind.u32 12 x5.csr), (SV.rd ETy.u8 m.mem), (SV.v (Value.int IntKind.u64 m.time)), (SV.rd ETy.u8 m.out), (SV.v (Value.bool m.halted))]), (SV.agg [(SV.v (Value.int IntKind.i64 (0 : Int))), (SV.v (Value.int IntKind.u32 (0 : Int)))])]))))))
 else
 (bif (BEq.beq i.op (19 : Int)) then
 (Tree.letv (okO [(AT.i IntKind.u32)]) (((4 : Int) * (i.imm % (4294967296 : Int))) % (4294967296 : Int)) fun x3 =>
 (bif (BEq.beq i.op (19 : Int)) then
 (Tree.letv (okO [(AT.i IntKind.u32)]) ((x0 + (i.imm % (4294967296 : Int))) % (4294967296 : Int)) fun x4 =>
 (Tree.letv (okO [(AT.a IntKind.u32 16)]) (K.put m.core.regs i.rd (IntKind.wrap IntKind.u32 (m.core.pc + (4 : Int)))) fun x5 =>
 (Tree.letv (okO [AT.core]) (PCore.mk x5 ((m.core.pc + (4 : Int)) % (4294967296 : Int)) m.core.csr) fun x6 =>
 (Tree.leaf (SV.tup [(SV.agg [(SV.arr IntKind.u32 16 x6.regs), (SV.v (Value.int IntKind.u32 x4)), (SV.arr IntKind.u32 12 x6.csr), (SV.rd ETy.u8 m.mem), (SV.v (Value.int IntKind.u64 m.time)), (SV.rd ETy.u8 m.out), (SV.v (Value.bool m.halted))]), (SV.agg [(SV.v (Value.int IntKind.i64 (0 : Int))), (SV.v (Value.int IntKind.u32 (0 : Int)))])])))))
 else
 (Tree.letv (okO [(AT.a IntKind.u32 16)]) (K.put m.core.regs i.rd (IntKind.wrap IntKind.u32 (m.core.pc + (4 : Int)))) fun x4 =>
 (Tree.letv (okO [AT.core]) (PCore.mk x4 ((m.core.pc + (4 : Int)) % (4294967296 : Int)) m.core.csr) fun x5 =>
 (Tree.leaf (SV.tup [(SV.agg [(SV.arr IntKind.u32 16 x5.regs), (SV.v (Value.int IntKind.u32 (IntKind.wrap IntKind.u32 (m.core.pc + x3)))), (SV.arr IntKind.u32 12 x5.csr), (SV.rd ETy.u8 m.mem), (SV.v (Value.int IntKind.u64 m.time)), (SV.rd ETy.u8 m.out), (SV.v (Value.bool m.halted))]), (SV.agg [(SV.v (Value.int IntKind.i64 (0 : Int))), (SV.v (Value.int IntKind.u32 (0 : Int)))])]))))))
 else
 (bif (BEq.beq i.op (20 : Int)) then
 (Tree.leaf (SV.tup [(SV.agg [(SV.arr IntKind.u32 16 m.core.regs), (SV.v (Value.int IntKind.u32 m.core.pc)), (SV.arr IntKind.u32 12 m.core.csr), (SV.rd ETy.u8 m.mem), (SV.v (Value.int IntKind.u64 m.time)), (SV.rd ETy.u8 m.out), (SV.v (Value.bool m.halted))]), (SV.agg [(SV.v (Value.int IntKind.i64 (5 : Int))), (SV.v (Value.int IntKind.u32 (0 : Int)))])]))
 else
 (Tree.letv (okO [(AT.i IntKind.i64)]) (K.form i.op) fun x3 =>
 (bif (BEq.beq x3 (1 : Int)) then
 (Tree.letv (okO [(AT.i IntKind.u32)]) (K.alu i.op x0 x1) fun x4 =>
 (Tree.letv (okO [(AT.a IntKind.u32 16)]) (K.put m.core.regs i.rd x4) fun x5 =>
 (Tree.letv (okO [AT.core]) (PCore.mk x5 ((m.core.pc + (4 : Int)) % (4294967296 : Int)) m.core.csr) fun x6 =>
 (Tree.leaf (SV.tup [(SV.agg [(SV.arr IntKind.u32 16 x6.regs), (SV.v (Value.int IntKind.u32 x6.pc)), (SV.arr IntKind.u32 12 x6.csr), (SV.rd ETy.u8 m.mem), (SV.v (Value.int IntKind.u64 m.time)), (SV.rd ETy.u8 m.out), (SV.v (Value.bool m.halted))]), (SV.agg [(SV.v (Value.int IntKind.i64 (0 : Int))), (SV.v (Value.int IntKind.u32 (0 : Int)))])])))))
 else
 (Tree.leaf (SV.tup [(SV.agg [(SV.arr IntKind.u32 16 m.core.regs), (SV.v (Value.int IntKind.u32 m.core.pc)), (SV.arr IntKind.u32 12 m.core.csr), (SV.rd ETy.u8 m.mem), (SV.v (Value.int IntKind.u64 m.time)), (SV.rd ETy.u8 m.out), (SV.v (Value.bool m.halted))]), (SV.agg [(SV.v (Value.int IntKind.i64 (0 : Int))), (SV.v (Value.int IntKind.u32 (0 : Int)))])])))))))))))))))))) := by kernel_rfl
section
attribute [local irreducible] evF evFL evFLs evFM
theorem a_exec_Execute (m : PMach) (i : PInstr) (hpre : 1 ≤ i.op ∧ i.op ≤ 20 ∧ m.mem.length ≤ 1099511627776) (ok_m : okMach m) (ok_i : okInstr i) : (evF E_exec_Execute 60 50 (encArgs [.mach, .instr] (m, i, ()))).ends fun out_ => decO [.mach, .trap] out_ = some (K.exec m i) := by
  rw [t_exec_Execute, Tree.ends_holds]
  obtain ⟨im0, im1⟩ := okI_i32 ok_i.imm
  have hpre1 := hpre.1
  have hpre2 := hpre.2.1
  simp only [Tree.holds_loop, Tree.holds_fork, Tree.holds_next, if_true, Tree.holds_cond, Tree.holds_letv, Tree.holds_leaf, Tree.holds_fail, decO, decA, decTup, decMach, decCore, decTrap, decInstr, decPart, decGuest, decConf, decEvent, decVcpu, decStep, bytesS, boolS, eventsS, intsS, guestsS, vcpusS, rowS, castL, Option.bind_some, Option.map_some, Option.some.injEq, Nat.beq_refl, beq_self_eq_true, Bool.and_self, cond_true, cond_false, eq_self, beq_iff_eq, beq_eq_false_iff_ne, bne_iff_ne, bne_eq_false_iff_eq, ne_eq, decide_eq_true_eq, decide_eq_false_iff_not, ble_true, ble_false, inRange_iff, inRange_false, wrap32]
  have e0 : (K.get m.core.regs i.ra + i.imm % 4294967296) % 4294967296 = K.ea m i := rfl
  have e1 : 4 * (i.imm % 4294967296) % 4294967296 = K.far i := by unfold K.far; omega
  have x1 : 1 ≤ i.op → i.op ≤ 8 → K.exec m i = _ := fun a b => by unfold K.exec; rw [if_pos ⟨a, b⟩]
  have x9 : i.op = 9 → K.exec m i = _ := fun a => by unfold K.exec; rw [if_neg (by omega), if_pos a]
  have x10 : i.op = 10 → K.exec m i = _ := fun a => by unfold K.exec; rw [if_neg (by omega), if_neg (by omega), if_pos a]
  have x11 : i.op = 11 ∨ i.op = 13 → K.exec m i = _ := fun a => by unfold K.exec; rw [if_neg (by omega), if_neg (by omega), if_neg (by omega), if_pos a]
  have x12 : i.op = 12 ∨ i.op = 14 → K.exec m i = _ := fun a => by unfold K.exec; rw [if_neg (by omega), if_neg (by omega), if_neg (by omega), if_neg (by omega), if_pos a]
  have x15 : 15 ≤ i.op → i.op ≤ 17 → K.exec m i = _ := fun a b => by unfold K.exec; rw [if_neg (by omega), if_neg (by omega), if_neg (by omega), if_neg (by omega), if_neg (by omega), if_pos ⟨a, b⟩]
  have x18 : i.op = 18 → K.exec m i = _ := fun a => by unfold K.exec; rw [if_neg (by omega), if_neg (by omega), if_neg (by omega), if_neg (by omega), if_neg (by omega), if_neg (by omega), if_pos a]
  have x19 : i.op = 19 → K.exec m i = _ := fun a => by unfold K.exec; rw [if_neg (by omega), if_neg (by omega), if_neg (by omega), if_neg (by omega), if_neg (by omega), if_neg (by omega), if_neg (by omega), if_pos a]
  have x20 : i.op = 20 → K.exec m i = (m, ⟨5, 0⟩) := fun a => by unfold K.exec; rw [if_neg (by omega), if_neg (by omega), if_neg (by omega), if_neg (by omega), if_neg (by omega), if_neg (by omega), if_neg (by omega), if_neg (by omega)]
  have hform : K.form i.op = 1 → i.op ≤ 8 := fun h => by unfold K.form at h; (repeat' split at h) <;> omega
  have hform2 : ¬ K.form i.op = 1 → 8 < i.op := fun h => by
    unfold K.form at h
    by_cases q : i.op ≤ 8
    · rw [if_pos ⟨hpre1, q⟩] at h; exact absurd rfl h
    · omega
  simp only [e0, e1]
  clear ok_m ok_i im0 im1
  have lz := fun a n => load_zero (m := m) (a := a) (n := n)
  have sz := fun a n v => store_zero (m := m) (a := a) (n := n) (v := v)
  have ss := fun a n v => store_same (m := m) (a := a) (n := n) (v := v)
  repeat' (first | refine drop_ok ?_ | intro _ | with_reducible apply And.intro)
  all_goals try omega
  all_goals try (rw [x9 (by assumption)]; rfl)
  all_goals try (rw [x10 (by assumption)]; rfl)
  all_goals try (rw [x18 (by assumption)]; rfl)
  all_goals try (rw [x19 (by assumption)]; rfl)
  all_goals try (rw [x20 (by assumption)])
  all_goals try (rw [x1 hpre1 (hform (by assumption))]; rfl)
  all_goals try (
    have q : i.op = 11 := by assumption
    have n1 : (if i.op = 13 ∨ i.op = 14 then (1 : Int) else 4) = 4 := if_neg (by omega)
    have n2 : (if i.op = 13 then (1 : Int) else 4) = 4 := if_neg (by omega)
    rw [x11 (.inl q)]
    simp only [n1, n2] at *
    first
      | (have c : (K.load m (K.ea m i) 4).2.cause = 0 := by assumption
         rw [if_pos c]; simp only [c, lz _ _ c]; rfl)
      | (rw [if_neg (show ¬ (K.load m (K.ea m i) 4).2.cause = 0 by assumption)]; first | done | rfl))
  all_goals try (
    have q : i.op = 13 := by assumption
    have n1 : (if i.op = 13 ∨ i.op = 14 then (1 : Int) else 4) = 1 := if_pos (by omega)
    have n2 : (if i.op = 13 then (1 : Int) else 4) = 1 := if_pos (by omega)
    rw [x11 (.inr q)]
    simp only [n1, n2] at *
    first
      | (have c : (K.load m (K.ea m i) 1).2.cause = 0 := by assumption
         rw [if_pos c]; simp only [c, lz _ _ c]; rfl)
      | (rw [if_neg (show ¬ (K.load m (K.ea m i) 1).2.cause = 0 by assumption)]; first | done | rfl))
  all_goals try (
    have q : i.op = 12 := by assumption
    have n1 : (if i.op = 13 ∨ i.op = 14 then (1 : Int) else 4) = 4 := if_neg (by omega)
    have n2 : (if i.op = 14 then (1 : Int) else 4) = 4 := if_neg (by omega)
    rw [x12 (.inl q)]
    simp only [n1, n2] at *
    first
      | (have c : (K.store m (K.ea m i) 4 (K.get m.core.regs i.rd)).2.cause = 0 := by assumption
         obtain ⟨s1, s2, s3, s4⟩ := ss (K.ea m i) 4 (K.get m.core.regs i.rd)
         rw [if_pos c]; simp only [c, sz _ _ _ c, s1]; simp only [K.wpc, s1])
      | (rw [if_neg (show ¬ (K.store m (K.ea m i) 4 (K.get m.core.regs i.rd)).2.cause = 0 by assumption)]; first | done | rfl))
  all_goals try (
    have q : i.op = 14 := by assumption
    have n1 : (if i.op = 13 ∨ i.op = 14 then (1 : Int) else 4) = 1 := if_pos (by omega)
    have n2 : (if i.op = 14 then (1 : Int) else 4) = 1 := if_pos (by omega)
    rw [x12 (.inr q)]
    simp only [n1, n2] at *
    first
      | (have c : (K.store m (K.ea m i) 1 (K.get m.core.regs i.rd)).2.cause = 0 := by assumption
         obtain ⟨s1, s2, s3, s4⟩ := ss (K.ea m i) 1 (K.get m.core.regs i.rd)
         rw [if_pos c]; simp only [c, sz _ _ _ c, s1]; simp only [K.wpc, s1])
      | (rw [if_neg (show ¬ (K.store m (K.ea m i) 1 (K.get m.core.regs i.rd)).2.cause = 0 by assumption)]; first | done | rfl))
  all_goals try (rw [x15 (by omega) (by omega), if_pos (by assumption)]; rfl)
  all_goals try (rw [x15 (by omega) (by omega), if_neg (by rw [show K.taken i.op (K.get m.core.regs i.rd) (K.get m.core.regs i.ra) = false by assumption]; decide)]; rfl)
  all_goals try (have := hform2 (by assumption); omega)
  all_goals try (exfalso; rename_i q; apply q; split <;> simp; done)
  all_goals try (exfalso; rename_i q; apply q; refine ⟨?_, hpre.2.2⟩; split <;> simp; done)
  
theorem c_exec_Execute : SpecOk EB_1_2 50 S_exec_Execute := spec_sig ok_exec_Execute (n := 60) fun ⟨m, i, ⟨⟩⟩ h hok => a_exec_Execute m i (of_decide_eq_true h) (ok_mach (okSL_head hok)) (ok_instr (okSL_head (okSL_tail hok)))
end

/-! step_StepNoTimer -/

def S_step_StepNoTimer : Spec := sig [.mach] [.mach, .trap] (fun (m, _) => K.plain m) (pre := fun (m, _) => decide (m.mem.length ≤ 1099511627776 ∧ m.out.length ≤ 1099511627776))
noncomputable def E_step_StepNoTimer : Env := EB_0_1_2.adds [(43, S_step_Current), (34, S_step_end), (48, S_isa_IsPrivileged), (49, S_priv_Execute), (50, S_exec_Execute)]

theorem ok_step_StepNoTimer : EnvOk E_step_StepNoTimer := okEB_0_1_2.adds (l := _) ⟨c_step_Current, (up_to_0_1_2 c_step_end), (up_to_0_1_2 c_isa_IsPrivileged), (up_to_0_1_2 c_priv_Execute), (up_1_2_to_0_1_2 c_exec_Execute), trivial⟩

theorem t_step_StepNoTimer (m : PMach) : evF E_step_StepNoTimer 60 35 (encArgs [.mach] (m, ())) = 
 bif m.halted then
 (Tree.leaf (SV.tup [(SV.agg [(SV.arr IntKind.u32 16 m.core.regs), (SV.v (Value.int IntKind.u32 m.core.pc)), (SV.arr IntKind.u32 12 m.core.csr), (SV.rd ETy.u8 m.mem), (SV.v (Value.int IntKind.u64 m.time)), (SV.rd ETy.u8 m.out), (SV.v (Value.bool m.halted))]), (SV.agg [(SV.v (Value.int IntKind.i64 (0 : Int))), (SV.v (Value.int IntKind.u32 (0 : Int)))])]))
 else
 (Tree.letv (okO [AT.instr, AT.trap]) (K.cur m) fun x0 =>
 (bif (bne x0.snd.cause (0 : Int)) then
 (Tree.letv (okO [AT.mach, AT.trap]) (K.endS m x0.snd) fun x1 =>
 (Tree.leaf (SV.tup [(SV.agg [(SV.arr IntKind.u32 16 x1.fst.core.regs), (SV.v (Value.int IntKind.u32 x1.fst.core.pc)), (SV.arr IntKind.u32 12 x1.fst.core.csr), (SV.rd ETy.u8 x1.fst.mem), (SV.v (Value.int IntKind.u64 x1.fst.time)), (SV.rd ETy.u8 x1.fst.out), (SV.v (Value.bool x1.fst.halted))]), (SV.agg [(SV.v (Value.int IntKind.i64 x1.snd.cause)), (SV.v (Value.int IntKind.u32 x1.snd.tval))])])))
 else
 (Tree.letv (okO [AT.b]) (K.privd x0.fst.op) fun x1 =>
 (bif x1 then
 (bif (decide ((List.length m.out) ≤ 1099511627776)) then
 (Tree.letv (okO [AT.mach]) (K.priv m x0.fst) fun x2 =>
 (Tree.letv (okO [AT.mach, AT.trap]) (K.endS x2 x0.snd) fun x3 =>
 (Tree.leaf (SV.tup [(SV.agg [(SV.arr IntKind.u32 16 x3.fst.core.regs), (SV.v (Value.int IntKind.u32 x3.fst.core.pc)), (SV.arr IntKind.u32 12 x3.fst.core.csr), (SV.rd ETy.u8 x3.fst.mem), (SV.v (Value.int IntKind.u64 x3.fst.time)), (SV.rd ETy.u8 x3.fst.out), (SV.v (Value.bool x3.fst.halted))]), (SV.agg [(SV.v (Value.int IntKind.i64 x3.snd.cause)), (SV.v (Value.int IntKind.u32 x3.snd.tval))])]))))
 else
 (Tree.fail))
 else
 (bif (decide (And ((1 : Int) ≤ x0.fst.op) (And (x0.fst.op ≤ (20 : Int)) ((List.length m.mem) ≤ 1099511627776)))) then
 (Tree.letv (okO [AT.mach, AT.trap]) (K.exec m x0.fst) fun x2 =>
 (Tree.letv (okO [AT.mach, AT.trap]) (K.endS x2.fst x2.snd) fun x3 =>
 (Tree.leaf (SV.tup [(SV.agg [(SV.arr IntKind.u32 16 x3.fst.core.regs), (SV.v (Value.int IntKind.u32 x3.fst.core.pc)), (SV.arr IntKind.u32 12 x3.fst.core.csr), (SV.rd ETy.u8 x3.fst.mem), (SV.v (Value.int IntKind.u64 x3.fst.time)), (SV.rd ETy.u8 x3.fst.out), (SV.v (Value.bool x3.fst.halted))]), (SV.agg [(SV.v (Value.int IntKind.i64 x3.snd.cause)), (SV.v (Value.int IntKind.u32 x3.snd.tval))])]))))
 else
 (Tree.fail)))))) := by kernel_rfl
section
attribute [local irreducible] evF evFL evFLs evFM
theorem a_step_StepNoTimer (m : PMach) (hpre : m.mem.length ≤ 1099511627776 ∧ m.out.length ≤ 1099511627776) (ok_m : okMach m) : (evF E_step_StepNoTimer 60 35 (encArgs [.mach] (m, ()))).ends fun out_ => decO [.mach, .trap] out_ = some (K.plain m) := by
  rw [t_step_StepNoTimer, Tree.ends_holds]
  have hmay := fun h => cur_may (m := m) h
  have hz := fun h => cur_zero (m := m) h
  simp only [Tree.holds_loop, Tree.holds_fork, Tree.holds_next, if_true, Tree.holds_cond, Tree.holds_letv, Tree.holds_leaf, Tree.holds_fail, decO, decA, decTup, decMach, decCore, decTrap, decInstr, decPart, decGuest, decConf, decEvent, decVcpu, decStep, bytesS, boolS, eventsS, intsS, guestsS, vcpusS, rowS, castL, Option.bind_some, Option.map_some, Option.some.injEq, Nat.beq_refl, beq_self_eq_true, Bool.and_self, cond_true, cond_false, eq_self, beq_iff_eq, beq_eq_false_iff_ne, bne_iff_ne, bne_eq_false_iff_eq, ne_eq, decide_eq_true_eq, decide_eq_false_iff_not, ble_true, ble_false, inRange_iff, inRange_false]
  unfold K.plain
  repeat' (first | refine drop_ok ?_ | intro _ | with_reducible apply And.intro)
  · rename_i h; rw [if_pos h]
  · rename_i h c; rw [if_neg (by rw [h]; decide), if_pos c]
  · rename_i h c p _; rw [if_neg (by rw [h]; decide), if_neg (by simp [c]), if_pos p, hz c]
  · omega
  · rename_i h c p _; rw [if_neg (by rw [h]; decide), if_neg (by simp [c]), if_neg (by rw [p]; decide)]
  · rename_i h c p q
    have hm := (hmay c).op
    apply q
    refine ⟨hm.1, ?_, hpre.1⟩
    have : ¬ (21 ≤ (K.cur m).1.op ∧ (K.cur m).1.op ≤ 25) := fun z => by rw [privd_range.2 z] at p; cases p
    omega
  
theorem c_step_StepNoTimer : SpecOk EB_0_1_2 35 S_step_StepNoTimer := spec_sig ok_step_StepNoTimer (n := 60) fun ⟨m, ⟨⟩⟩ h hok => a_step_StepNoTimer m (of_decide_eq_true h) (ok_mach (okSL_head hok))
end

/-! step_Step -/

def S_step_Step : Spec := sig [.mach] [.mach, .trap] (fun (m, _) => K.step m) (pre := fun (m, _) => decide (m.mem.length ≤ 1099511627776 ∧ m.out.length ≤ 1099511627776))
noncomputable def E_step_Step : Env := EB_0_1_2.adds [(33, S_fetch_TimerPending), (34, S_step_end), (35, S_step_StepNoTimer)]

theorem ok_step_Step : EnvOk E_step_Step := okEB_0_1_2.adds (l := _) ⟨(up_to_0_1_2 c_fetch_TimerPending), (up_to_0_1_2 c_step_end), c_step_StepNoTimer, trivial⟩

theorem t_step_Step (m : PMach) : evF E_step_Step 60 23 (encArgs [.mach] (m, ())) = 
 bif m.halted then
 (bif (decide (And ((List.length m.mem) ≤ 1099511627776) ((List.length m.out) ≤ 1099511627776))) then
 (Tree.letv (okO [AT.mach, AT.trap]) (K.plain m) fun x0 =>
 (Tree.leaf (SV.tup [(SV.agg [(SV.arr IntKind.u32 16 x0.fst.core.regs), (SV.v (Value.int IntKind.u32 x0.fst.core.pc)), (SV.arr IntKind.u32 12 x0.fst.core.csr), (SV.rd ETy.u8 x0.fst.mem), (SV.v (Value.int IntKind.u64 x0.fst.time)), (SV.rd ETy.u8 x0.fst.out), (SV.v (Value.bool x0.fst.halted))]), (SV.agg [(SV.v (Value.int IntKind.i64 x0.snd.cause)), (SV.v (Value.int IntKind.u32 x0.snd.tval))])])))
 else
 (Tree.fail))
 else
 (Tree.letv (okO [AT.b]) (K.due m) fun x0 =>
 (bif x0 then
 (Tree.letv (okO [AT.mach, AT.trap]) (K.endS m (PTrap.mk (6 : Int) (0 : Int))) fun x1 =>
 (Tree.leaf (SV.tup [(SV.agg [(SV.arr IntKind.u32 16 x1.fst.core.regs), (SV.v (Value.int IntKind.u32 x1.fst.core.pc)), (SV.arr IntKind.u32 12 x1.fst.core.csr), (SV.rd ETy.u8 x1.fst.mem), (SV.v (Value.int IntKind.u64 x1.fst.time)), (SV.rd ETy.u8 x1.fst.out), (SV.v (Value.bool x1.fst.halted))]), (SV.agg [(SV.v (Value.int IntKind.i64 x1.snd.cause)), (SV.v (Value.int IntKind.u32 x1.snd.tval))])])))
 else
 (bif (decide (And ((List.length m.mem) ≤ 1099511627776) ((List.length m.out) ≤ 1099511627776))) then
 (Tree.letv (okO [AT.mach, AT.trap]) (K.plain m) fun x1 =>
 (Tree.leaf (SV.tup [(SV.agg [(SV.arr IntKind.u32 16 x1.fst.core.regs), (SV.v (Value.int IntKind.u32 x1.fst.core.pc)), (SV.arr IntKind.u32 12 x1.fst.core.csr), (SV.rd ETy.u8 x1.fst.mem), (SV.v (Value.int IntKind.u64 x1.fst.time)), (SV.rd ETy.u8 x1.fst.out), (SV.v (Value.bool x1.fst.halted))]), (SV.agg [(SV.v (Value.int IntKind.i64 x1.snd.cause)), (SV.v (Value.int IntKind.u32 x1.snd.tval))])])))
 else
 (Tree.fail)))) := by kernel_rfl
section
attribute [local irreducible] evF evFL evFLs evFM
theorem a_step_Step (m : PMach) (hpre : m.mem.length ≤ 1099511627776 ∧ m.out.length ≤ 1099511627776) (ok_m : okMach m) : (evF E_step_Step 60 23 (encArgs [.mach] (m, ()))).ends fun out_ => decO [.mach, .trap] out_ = some (K.step m) := by
  rw [t_step_Step, Tree.ends_holds]
  simp only [Tree.holds_loop, Tree.holds_fork, Tree.holds_next, if_true, Tree.holds_cond, Tree.holds_letv, Tree.holds_leaf, Tree.holds_fail, decO, decA, decTup, decMach, decCore, decTrap, decInstr, decPart, decGuest, decConf, decEvent, decVcpu, decStep, bytesS, boolS, eventsS, intsS, guestsS, vcpusS, rowS, castL, Option.bind_some, Option.map_some, Option.some.injEq, Nat.beq_refl, beq_self_eq_true, Bool.and_self, cond_true, cond_false, eq_self, beq_iff_eq, beq_eq_false_iff_ne, bne_iff_ne, bne_eq_false_iff_eq, ne_eq, decide_eq_true_eq, decide_eq_false_iff_not, ble_true, ble_false, inRange_iff, inRange_false]
  unfold K.step
  repeat' (first | refine drop_ok ?_ | intro _ | with_reducible apply And.intro)
  all_goals first | (simp_all; done) | omega
  
theorem c_step_Step : SpecOk EB_0_1_2 23 S_step_Step := spec_sig ok_step_Step (n := 60) fun ⟨m, ⟨⟩⟩ h hok => a_step_Step m (of_decide_eq_true h) (ok_mach (okSL_head hok))
end

/-! run_Run -/
/-- the open record, as a loop in the function that is ranged over keeps it -/
def recAt (s : St) (keys : List Nat) : Blk := match s.T 0 with
  | .yld kl => match keysD s [kl, kl - 1] keys with
    | some ks => match (s.M kl).bind (renB (ks ++ [kl, kl - 1])) with
      | some b => b
      | none => .dfr
    | none => .dfr
  | _ => .dfr
@[reducible] def L_run (m : PMach) (n : Int) (R : Blk) : LoopSpec where
  σ := Nat
  slots := [0, 1, 2, 4, 5]
  keys := [1, 2, 4, 1002, 1004, 1006]
  vals := fun i => [.yld 6, .loc 0 0 0 1, .loc 1 0 0 1, .loc 2 0 0 1, .v (.int .i64 (i : Int))]
  blks := fun i => [.cells (machC m) 30, .cells [.v (.int .i64 n)] 3, .cells (machC (K.runS m i).1 ++ trapC (K.runS m i).2) 55, .cells (machC (K.runS m (i - 1)).1) 30, .cells [.arr .u32 16 [0, 0, 0, 0, 0, 0, 0, 0, 0, 0, 0, 0, 0, 0, 0, 0], .v (.int .u32 0), .arr .u32 12 [0, 0, 0, 0, 0, 0, 0, 0, 0, 0, 0, 0], .v (.slice none 0 0), .v (.int .u64 0), .v (.slice none 0 0), .b false] 30, .cells [.v (.int .i64 ((i - 1 : Nat) : Int))] 3, R, .dfr]
  inv := fun i => i ≤ 100 ∧ K.runEnd m n (200 - i) i = K.runN m n ∧ (K.runS m i).1.mem.length = m.mem.length ∧ (K.runS m i).1.out.length ≤ m.out.length + i
  mu := fun i => 200 - i
def S_run_Run : Spec := sig [.mach, .i .i64] [.mach, .i .i64] (fun (m, n, _) => K.run m n) (pre := fun (m, n, _) => decide (n ≤ 100 ∧ m.mem.length ≤ 1073741824 ∧ m.out.length ≤ 1073741824))
noncomputable def E_run_Run : Env := EB_0_1_2.adds [(23, S_step_Step)]

theorem ok_run_Run : EnvOk E_run_Run := okEB_0_1_2.adds (l := _) ⟨c_step_Step, trivial⟩

theorem t_run_Run (m : PMach) (n : Int) : evFM E_run_Run (fun b => if b = 0 then some (fun s => L_run m n (recAt s [1, 2, 4, 1002, 1004, 1006])) else none) [] 60 10 (encArgs [.mach, .i .i64] (m, n, ())) = 
 Tree.loop 0 (L_run m n (Blk.lp [(SV.agg [(SV.arr IntKind.u32 16 m.core.regs), (SV.v (Value.int IntKind.u32 m.core.pc)), (SV.arr IntKind.u32 12 m.core.csr), (SV.rd ETy.u8 m.mem), (SV.v (Value.int IntKind.u64 m.time)), (SV.rd ETy.u8 m.out), (SV.v (Value.bool m.halted))]), (SV.v (Value.int IntKind.i64 n)), (SV.loc 3 0 0 1), SV.undef, (SV.loc 4 0 0 1), (SV.v (Value.int IntKind.i64 (0 : Int))), (SV.loc 5 0 0 1), SV.undef, SV.undef, (SV.agg [(SV.arr IntKind.u32 16 m.core.regs), (SV.v (Value.int IntKind.u32 m.core.pc)), (SV.arr IntKind.u32 12 m.core.csr), (SV.rd ETy.u8 m.mem), (SV.v (Value.int IntKind.u64 m.time)), (SV.rd ETy.u8 m.out), (SV.v (Value.bool m.halted))]), (SV.v (Value.int IntKind.i64 n)), SV.junk, SV.undef, SV.undef, SV.undef, SV.undef, SV.undef, SV.undef, SV.undef] #[12, 13] (Code.seq (Code.region 3 #[(Oper.mk (Option.some 7) (Op.assign (Operand.tmp 12)) 3 "run.go:33" #[] Option.none)] false) (Code.region 4 #[(Oper.mk (Option.some 8) (Op.alloc 55) 0 "run.go:33" #[] Option.none), (Oper.mk Option.none (Op.store 55 (Operand.tmp 8) (Operand.tmp 13)) 0 "run.go:33" #[(Edge.mk 0 Ground.data), (Edge.mk 0 Ground.phase)] Option.none)] false)) (Code.block 1 (Code.region 5 #[(Oper.mk (Option.some 14) (Op.fieldAddr 55 (Operand.tmp 8) 0) 0 "run.go:34" #[] Option.none), (Oper.mk (Option.some 15) (Op.load 30 (Operand.tmp 14)) 30 "run.go:34" #[(Edge.mk 0 Ground.data)] Option.none), (Oper.mk (Option.some 16) (Op.move (Operand.tmp 7)) 3 "run.go:34" #[(Edge.mk 3 (Ground.gcOnly Departure.lateStores))] Option.none), (Oper.mk Option.none (Op.store 30 (Operand.tmp 2) (Operand.tmp 15)) 0 "run.go:34" #[(Edge.mk 1 Ground.data), (Edge.mk 0 Ground.phase), (Edge.mk 1 Ground.phase), (Edge.mk 2 (Ground.textOnly Departure.lateStores))] Option.none), (Oper.mk Option.none (Op.store 3 (Operand.tmp 6) (Operand.tmp 16)) 0 "run.go:34" #[(Edge.mk 2 Ground.data), (Edge.mk 3 Ground.chain), (Edge.mk 0 Ground.phase), (Edge.mk 1 Ground.phase), (Edge.mk 2 Ground.phase), (Edge.mk 3 Ground.phase)] Option.none)] false)) LoopState.ready Option.none)) [(SV.yld 6), (SV.loc 0 0 0 1), (SV.loc 1 0 0 1), (SV.loc 2 0 0 1), (SV.v (Value.int IntKind.i64 (0 : Int)))] [(Blk.cells [(SV.arr IntKind.u32 16 m.core.regs), (SV.v (Value.int IntKind.u32 m.core.pc)), (SV.arr IntKind.u32 12 m.core.csr), (SV.rd ETy.u8 m.mem), (SV.v (Value.int IntKind.u64 m.time)), (SV.rd ETy.u8 m.out), (SV.v (Value.bool m.halted))] 30), (Blk.cells [(SV.v (Value.int IntKind.i64 n))] 3), (Blk.cells [(SV.arr IntKind.u32 16 m.core.regs), (SV.v (Value.int IntKind.u32 m.core.pc)), (SV.arr IntKind.u32 12 m.core.csr), (SV.rd ETy.u8 m.mem), (SV.v (Value.int IntKind.u64 m.time)), (SV.rd ETy.u8 m.out), (SV.v (Value.bool m.halted)), (SV.v (Value.int IntKind.i64 (0 : Int))), (SV.v (Value.int IntKind.u32 (0 : Int)))] 55), (Blk.cells [(SV.arr IntKind.u32 16 m.core.regs), (SV.v (Value.int IntKind.u32 m.core.pc)), (SV.arr IntKind.u32 12 m.core.csr), (SV.rd ETy.u8 m.mem), (SV.v (Value.int IntKind.u64 m.time)), (SV.rd ETy.u8 m.out), (SV.v (Value.bool m.halted))] 30), (Blk.cells [(SV.arr IntKind.u32 16 [(0 : Int), (0 : Int), (0 : Int), (0 : Int), (0 : Int), (0 : Int), (0 : Int), (0 : Int), (0 : Int), (0 : Int), (0 : Int), (0 : Int), (0 : Int), (0 : Int), (0 : Int), (0 : Int)]), (SV.v (Value.int IntKind.u32 (0 : Int))), (SV.arr IntKind.u32 12 [(0 : Int), (0 : Int), (0 : Int), (0 : Int), (0 : Int), (0 : Int), (0 : Int), (0 : Int), (0 : Int), (0 : Int), (0 : Int), (0 : Int)]), (SV.v (Value.slice Option.none 0 0)), (SV.v (Value.int IntKind.u64 (0 : Int))), (SV.v (Value.slice Option.none 0 0)), (SV.b false)] 30), (Blk.cells [(SV.v (Value.int IntKind.i64 (0 : Int)))] 3), (Blk.lp [(SV.agg [(SV.arr IntKind.u32 16 m.core.regs), (SV.v (Value.int IntKind.u32 m.core.pc)), (SV.arr IntKind.u32 12 m.core.csr), (SV.rd ETy.u8 m.mem), (SV.v (Value.int IntKind.u64 m.time)), (SV.rd ETy.u8 m.out), (SV.v (Value.bool m.halted))]), (SV.v (Value.int IntKind.i64 n)), (SV.loc 3 0 0 1), SV.undef, (SV.loc 4 0 0 1), (SV.v (Value.int IntKind.i64 (0 : Int))), (SV.loc 5 0 0 1), SV.undef, SV.undef, (SV.agg [(SV.arr IntKind.u32 16 m.core.regs), (SV.v (Value.int IntKind.u32 m.core.pc)), (SV.arr IntKind.u32 12 m.core.csr), (SV.rd ETy.u8 m.mem), (SV.v (Value.int IntKind.u64 m.time)), (SV.rd ETy.u8 m.out), (SV.v (Value.bool m.halted))]), (SV.v (Value.int IntKind.i64 n)), SV.junk, SV.undef, SV.undef, SV.undef, SV.undef, SV.undef, SV.undef, SV.undef] #[12, 13] (Code.seq (Code.region 3 #[(Oper.mk (Option.some 7) (Op.assign (Operand.tmp 12)) 3 "run.go:33" #[] Option.none)] false) (Code.region 4 #[(Oper.mk (Option.some 8) (Op.alloc 55) 0 "run.go:33" #[] Option.none), (Oper.mk Option.none (Op.store 55 (Operand.tmp 8) (Operand.tmp 13)) 0 "run.go:33" #[(Edge.mk 0 Ground.data), (Edge.mk 0 Ground.phase)] Option.none)] false)) (Code.block 1 (Code.region 5 #[(Oper.mk (Option.some 14) (Op.fieldAddr 55 (Operand.tmp 8) 0) 0 "run.go:34" #[] Option.none), (Oper.mk (Option.some 15) (Op.load 30 (Operand.tmp 14)) 30 "run.go:34" #[(Edge.mk 0 Ground.data)] Option.none), (Oper.mk (Option.some 16) (Op.move (Operand.tmp 7)) 3 "run.go:34" #[(Edge.mk 3 (Ground.gcOnly Departure.lateStores))] Option.none), (Oper.mk Option.none (Op.store 30 (Operand.tmp 2) (Operand.tmp 15)) 0 "run.go:34" #[(Edge.mk 1 Ground.data), (Edge.mk 0 Ground.phase), (Edge.mk 1 Ground.phase), (Edge.mk 2 (Ground.textOnly Departure.lateStores))] Option.none), (Oper.mk Option.none (Op.store 3 (Operand.tmp 6) (Operand.tmp 16)) 0 "run.go:34" #[(Edge.mk 2 Ground.data), (Edge.mk 3 Ground.chain), (Edge.mk 0 Ground.phase), (Edge.mk 1 Ground.phase), (Edge.mk 2 Ground.phase), (Edge.mk 3 Ground.phase)] Option.none)] false)) LoopState.ready Option.none), Blk.dfr] fun (x0 : Nat) =>
 (bif (decide ((Int.ofNat x0) ≥ n)) then
 (Tree.leaf (SV.tup [(SV.agg [(SV.arr IntKind.u32 16 (K.runS m x0).fst.core.regs), (SV.v (Value.int IntKind.u32 (K.runS m x0).fst.core.pc)), (SV.arr IntKind.u32 12 (K.runS m x0).fst.core.csr), (SV.rd ETy.u8 (K.runS m x0).fst.mem), (SV.v (Value.int IntKind.u64 (K.runS m x0).fst.time)), (SV.rd ETy.u8 (K.runS m x0).fst.out), (SV.v (Value.bool (K.runS m x0).fst.halted))]), (SV.v (Value.int IntKind.i64 (Int.ofNat x0)))]))
 else
 (bif (K.runS m x0).fst.halted then
 (Tree.leaf (SV.tup [(SV.agg [(SV.arr IntKind.u32 16 (K.runS m x0).fst.core.regs), (SV.v (Value.int IntKind.u32 (K.runS m x0).fst.core.pc)), (SV.arr IntKind.u32 12 (K.runS m x0).fst.core.csr), (SV.rd ETy.u8 (K.runS m x0).fst.mem), (SV.v (Value.int IntKind.u64 (K.runS m x0).fst.time)), (SV.rd ETy.u8 (K.runS m x0).fst.out), (SV.v (Value.bool (K.runS m x0).fst.halted))]), (SV.v (Value.int IntKind.i64 (Int.ofNat x0)))]))
 else
 (bif (decide (And ((List.length (K.runS m x0).fst.mem) ≤ 1099511627776) ((List.length (K.runS m x0).fst.out) ≤ 1099511627776))) then
 (Tree.letv (okO [AT.mach, AT.trap]) (K.step (K.runS m x0).fst) fun x1 =>
 ((Tree.next 0 [(SV.yld 6), (SV.loc 0 0 0 1), (SV.loc 1 0 0 1), (SV.loc 2 0 0 1), (SV.v (Value.int IntKind.i64 (IntKind.wrap IntKind.i64 ((Int.ofNat x0) + (1 : Int)))))] [(Blk.cells [(SV.arr IntKind.u32 16 m.core.regs), (SV.v (Value.int IntKind.u32 m.core.pc)), (SV.arr IntKind.u32 12 m.core.csr), (SV.rd ETy.u8 m.mem), (SV.v (Value.int IntKind.u64 m.time)), (SV.rd ETy.u8 m.out), (SV.v (Value.bool m.halted))] 30), (Blk.cells [(SV.v (Value.int IntKind.i64 n))] 3), (Blk.cells [(SV.arr IntKind.u32 16 x1.fst.core.regs), (SV.v (Value.int IntKind.u32 x1.fst.core.pc)), (SV.arr IntKind.u32 12 x1.fst.core.csr), (SV.rd ETy.u8 x1.fst.mem), (SV.v (Value.int IntKind.u64 x1.fst.time)), (SV.rd ETy.u8 x1.fst.out), (SV.v (Value.bool x1.fst.halted)), (SV.v (Value.int IntKind.i64 x1.snd.cause)), (SV.v (Value.int IntKind.u32 x1.snd.tval))] 55), (Blk.cells [(SV.arr IntKind.u32 16 (K.runS m x0).fst.core.regs), (SV.v (Value.int IntKind.u32 (K.runS m x0).fst.core.pc)), (SV.arr IntKind.u32 12 (K.runS m x0).fst.core.csr), (SV.rd ETy.u8 (K.runS m x0).fst.mem), (SV.v (Value.int IntKind.u64 (K.runS m x0).fst.time)), (SV.rd ETy.u8 (K.runS m x0).fst.out), (SV.v (Value.bool (K.runS m x0).fst.halted))] 30), (Blk.cells [(SV.arr IntKind.u32 16 [(0 : Int), (0 : Int), (0 : Int), (0 : Int), (0 : Int), (0 : Int), (0 : Int), (0 : Int), (0 : Int), (0 : Int), (0 : Int), (0 : Int), (0 : Int), (0 : Int), (0 : Int), (0 : Int)]), (SV.v (Value.int IntKind.u32 (0 : Int))), (SV.arr IntKind.u32 12 [(0 : Int), (0 : Int), (0 : Int), (0 : Int), (0 : Int), (0 : Int), (0 : Int), (0 : Int), (0 : Int), (0 : Int), (0 : Int), (0 : Int)]), (SV.v (Value.slice Option.none 0 0)), (SV.v (Value.int IntKind.u64 (0 : Int))), (SV.v (Value.slice Option.none 0 0)), (SV.b false)] 30), (Blk.cells [(SV.v (Value.int IntKind.i64 (Int.ofNat x0)))] 3), (Blk.lp [(SV.agg [(SV.arr IntKind.u32 16 m.core.regs), (SV.v (Value.int IntKind.u32 m.core.pc)), (SV.arr IntKind.u32 12 m.core.csr), (SV.rd ETy.u8 m.mem), (SV.v (Value.int IntKind.u64 m.time)), (SV.rd ETy.u8 m.out), (SV.v (Value.bool m.halted))]), (SV.v (Value.int IntKind.i64 n)), (SV.loc 3 0 0 1), SV.undef, (SV.loc 4 0 0 1), (SV.v (Value.int IntKind.i64 (0 : Int))), (SV.loc 5 0 0 1), SV.undef, SV.undef, (SV.agg [(SV.arr IntKind.u32 16 m.core.regs), (SV.v (Value.int IntKind.u32 m.core.pc)), (SV.arr IntKind.u32 12 m.core.csr), (SV.rd ETy.u8 m.mem), (SV.v (Value.int IntKind.u64 m.time)), (SV.rd ETy.u8 m.out), (SV.v (Value.bool m.halted))]), (SV.v (Value.int IntKind.i64 n)), SV.junk, SV.undef, SV.undef, SV.undef, SV.undef, SV.undef, SV.undef, SV.undef] #[12, 13] (Code.seq (Code.region 3 #[(Oper.mk (Option.some 7) (Op.assign (Operand.tmp 12)) 3 "run.go:33" #[] Option.none)] false) (Code.region 4 #[(Oper.mk (Option.some 8) (Op.alloc 55) 0 "run.go:33" #[] Option.none), (Oper.mk Option.none (Op.store 55 (Operand.tmp 8) (Operand.tmp 13)) 0 "run.go:33" #[(Edge.mk 0 Ground.data), (Edge.mk 0 Ground.phase)] Option.none)] false)) (Code.block 1 (Code.region 5 #[(Oper.mk (Option.some 14) (Op.fieldAddr 55 (Operand.tmp 8) 0) 0 "run.go:34" #[] Option.none), (Oper.mk (Option.some 15) (Op.load 30 (Operand.tmp 14)) 30 "run.go:34" #[(Edge.mk 0 Ground.data)] Option.none), (Oper.mk (Option.some 16) (Op.move (Operand.tmp 7)) 3 "run.go:34" #[(Edge.mk 3 (Ground.gcOnly Departure.lateStores))] Option.none), (Oper.mk Option.none (Op.store 30 (Operand.tmp 2) (Operand.tmp 15)) 0 "run.go:34" #[(Edge.mk 1 Ground.data), (Edge.mk 0 Ground.phase), (Edge.mk 1 Ground.phase), (Edge.mk 2 (Ground.textOnly Departure.lateStores))] Option.none), (Oper.mk Option.none (Op.store 3 (Operand.tmp 6) (Operand.tmp 16)) 0 "run.go:34" #[(Edge.mk 2 Ground.data), (Edge.mk 3 Ground.chain), (Edge.mk 0 Ground.phase), (Edge.mk 1 Ground.phase), (Edge.mk 2 Ground.phase), (Edge.mk 3 Ground.phase)] Option.none)] false)) LoopState.ready Option.none), Blk.dfr])))
 else
 (Tree.fail)))) := by kernel_rfl
section
attribute [local irreducible] evF evFL evFLs evFM
theorem a_run_Run (m : PMach) (n : Int) (hpre : n ≤ 100 ∧ m.mem.length ≤ 1073741824 ∧ m.out.length ≤ 1073741824) (ok_m : okMach m) (ok_n : okI .i64 n) : (evFM E_run_Run (fun b => if b = 0 then some (fun s => L_run m n (recAt s [1, 2, 4, 1002, 1004, 1006])) else none) [] 60 10 (encArgs [.mach, .i .i64] (m, n, ()))).ends fun out_ => decO [.mach, .i .i64] out_ = some (K.run m n) := by
  rw [t_run_Run, Tree.ends_holds]
  obtain ⟨hn, hm, ho⟩ := hpre
  rw [Tree.holds_loop]
  refine ⟨⟨(0 : Nat), rfl, rfl, ⟨Nat.zero_le _, rfl, rfl, Nat.le_refl _⟩, trivial⟩, fun (i : Nat) hx => ?_⟩
  obtain ⟨i1, i2, i3, i4⟩ := hx
  have i1 : i ≤ 100 := i1
  have i2 : K.runEnd m n (200 - i) i = K.runN m n := i2
  have i3 : (K.runS m i).1.mem.length = m.mem.length := i3
  have i4 : (K.runS m i).1.out.length ≤ m.out.length + i := i4
  have w1 : IntKind.i64.wrap ((i : Int) + 1) = ((i + 1 : Nat) : Int) := by rw [wrapI64 (by omega) (by omega)]; rfl
  rw [show 200 - i = (199 - i) + 1 by omega] at i2
  have i2 : (if (i : Int) ≥ n ∨ (K.runS m i).1.halted = true then i else K.runEnd m n (199 - i) (i + 1)) = K.runN m n := i2
  have sl := step_lens (K.runS m i).1
  simp only [Tree.holds_loop, Tree.holds_fork, Tree.holds_next, if_true, Tree.holds_cond, Tree.holds_letv, Tree.holds_leaf, Tree.holds_fail, decO, decA, decTup, decMach, decCore, decTrap, decInstr, decPart, decGuest, decConf, decEvent, decVcpu, decStep, bytesS, boolS, eventsS, intsS, guestsS, vcpusS, rowS, castL, Option.bind_some, Option.map_some, Option.some.injEq, Nat.beq_refl, beq_self_eq_true, Bool.and_self, cond_true, cond_false, eq_self, beq_iff_eq, beq_eq_false_iff_ne, bne_iff_ne, bne_eq_false_iff_eq, ne_eq, decide_eq_true_eq, decide_eq_false_iff_not, ble_true, ble_false, inRange_iff, inRange_false, Int.ofNat_eq_natCast, Int.toNat_natCast, w1]
  by_cases hx : (i : Int) ≥ n ∨ (K.runS m i).1.halted = true
  · rw [if_pos hx] at i2
    have hr : K.run m n = ((K.runS m i).1, (i : Int)) := by unfold K.run; rw [← i2]
    rw [hr]
    repeat' (first | refine drop_ok ?_ | intro _ | with_reducible apply And.intro)
    all_goals first
      | trivial
      | rfl
      | (exfalso; omega)
      | (exfalso; rcases hx with q | q
         · exact absurd q (by assumption)
         · simp_all)
      | trace_state
  · rw [if_neg hx] at i2
    have hlt : (i : Int) < n := by
      have := fun q => hx (.inl q)
      omega
    have hh : (K.runS m i).1.halted = false := by
      cases hq : (K.runS m i).1.halted with
      | false => rfl
      | true => exact absurd (.inr hq) hx
    refine ⟨fun q => absurd q (by omega), fun _ => ⟨(fun q => by rw [hh] at q; cases q), fun _ => ⟨fun _ => fun _ => ?_, fun q => ?_⟩⟩⟩
    · refine ⟨i + 1, rfl, rfl, ⟨by show i + 1 ≤ 100; omega, ?_, ?_, ?_⟩, by show 200 - (i + 1) < 200 - i; omega⟩
      · show K.runEnd m n (200 - (i + 1)) (i + 1) = _
        rw [show 200 - (i + 1) = 199 - i by omega]; exact i2
      · show (K.step (K.runS m i).1).1.mem.length = _
        omega
      · show (K.step (K.runS m i).1).1.out.length ≤ _
        omega
    · exfalso; apply q; exact ⟨by omega, by omega⟩
  
theorem c_run_Run : SpecOk EB_0_1_2 10 S_run_Run := spec_sigM ok_run_Run (n := 60) (fun (m, n, _) => fun b => if b = 0 then some (fun s => L_run m n (recAt s [1, 2, 4, 1002, 1004, 1006])) else none) [] fun ⟨m, n, ⟨⟩⟩ h hok => a_run_Run m n (of_decide_eq_true h) (ok_mach (okSL_head hok)) (ok_int (okSL_head (okSL_tail hok)))
end

/-! run_RunUntil -/
def recAtU (s : St) (keys : List Nat) : Blk := match s.T 0 with
  | .yld kl => match keysD s [kl, kl - 1] keys with
    | some ks => match (s.M kl).bind (renB (ks ++ [kl, kl - 1])) with
      | some b => b
      | none => .dfr
    | none => .dfr
  | _ => .dfr
@[reducible] def L_runU (m : PMach) (n pc : Int) (R : Blk) : LoopSpec where
  σ := Nat
  slots := [0, 1, 2, 4, 5]
  keys := [1, 2, 4, 1003, 1005, 1006, 1007, 1008, 1009]
  vals := fun i => [.yld 9, .loc 0 0 0 1, .loc 1 0 0 1, .loc 2 0 0 1, .v (.int .i64 (i : Int))]
  blks := fun i => [.cells (machC m) 30, .cells [.v (.int .i64 n)] 3, .cells (machC (K.runS m i).1 ++ trapC (K.runS m i).2) 55, .cells (machC (K.runS m (i - 1)).1) 30, .cells [.v (.int .u32 pc)] 22, .cells [.arr .u32 16 [0, 0, 0, 0, 0, 0, 0, 0, 0, 0, 0, 0, 0, 0, 0, 0], .v (.int .u32 0), .arr .u32 12 [0, 0, 0, 0, 0, 0, 0, 0, 0, 0, 0, 0], .v (.slice none 0 0), .v (.int .u64 0), .v (.slice none 0 0), .b false] 30, .cells [.v (.int .i64 0)] 3, .cells [.b false] 4, .cells [.v (.int .i64 ((i - 1 : Nat) : Int))] 3, R, .dfr]
  inv := fun i => i ≤ 100 ∧ K.untilEnd m n pc (200 - i) i = K.untilN m n pc ∧ (K.runS m i).1.mem.length = m.mem.length ∧ (K.runS m i).1.out.length ≤ m.out.length + i
  mu := fun i => 200 - i
def S_run_RunUntil : Spec := sig [.mach, .i .i64, .i .u32] [.mach, .i .i64, .b] (fun (m, n, pc, _) => K.runUntil m n pc) (pre := fun (m, n, pc, _) => decide (n ≤ 100 ∧ m.mem.length ≤ 1073741824 ∧ m.out.length ≤ 1073741824))
noncomputable def E_run_RunUntil : Env := EB_0_1_2.adds [(23, S_step_Step)]

theorem ok_run_RunUntil : EnvOk E_run_RunUntil := okEB_0_1_2.adds (l := _) ⟨c_step_Step, trivial⟩

theorem t_run_RunUntil (m : PMach) (n : Int) (pc : Int) : evFM E_run_RunUntil (fun b => if b = 0 then some (fun s => L_runU m n pc (recAtU s [1, 2, 4, 1003, 1005, 1006, 1007, 1008, 1009])) else none) [] 60 14 (encArgs [.mach, .i .i64, .i .u32] (m, n, pc, ())) = 
 Tree.loop 0 (L_runU m n pc (Blk.lp [(SV.agg [(SV.arr IntKind.u32 16 m.core.regs), (SV.v (Value.int IntKind.u32 m.core.pc)), (SV.arr IntKind.u32 12 m.core.csr), (SV.rd ETy.u8 m.mem), (SV.v (Value.int IntKind.u64 m.time)), (SV.rd ETy.u8 m.out), (SV.v (Value.bool m.halted))]), (SV.v (Value.int IntKind.i64 n)), (SV.v (Value.int IntKind.u32 pc)), (SV.loc 3 0 0 1), SV.undef, (SV.loc 4 0 0 1), (SV.loc 5 0 0 1), (SV.loc 6 0 0 1), (SV.loc 7 0 0 1), (SV.loc 8 0 0 1), SV.undef, SV.undef, (SV.agg [(SV.arr IntKind.u32 16 m.core.regs), (SV.v (Value.int IntKind.u32 m.core.pc)), (SV.arr IntKind.u32 12 m.core.csr), (SV.rd ETy.u8 m.mem), (SV.v (Value.int IntKind.u64 m.time)), (SV.rd ETy.u8 m.out), (SV.v (Value.bool m.halted))]), (SV.v (Value.int IntKind.i64 n)), SV.junk, SV.undef, SV.undef, SV.undef, SV.undef, SV.undef, SV.undef, SV.undef, SV.undef, SV.undef, SV.undef, SV.undef, SV.undef, SV.undef, SV.undef] #[15, 16] (Code.seq (Code.region 3 #[(Oper.mk (Option.some 10) (Op.assign (Operand.tmp 15)) 3 "run.go:53" #[] Option.none)] false) (Code.region 4 #[(Oper.mk (Option.some 11) (Op.alloc 55) 0 "run.go:53" #[] Option.none), (Oper.mk Option.none (Op.store 55 (Operand.tmp 11) (Operand.tmp 16)) 0 "run.go:53" #[(Edge.mk 0 Ground.data), (Edge.mk 0 Ground.phase)] Option.none)] false)) (Code.block 1 (Code.seq (Code.region 5 #[(Oper.mk (Option.some 17) (Op.fieldAddr 55 (Operand.tmp 11) 0) 0 "run.go:54" #[] Option.none), (Oper.mk (Option.some 18) (Op.load 30 (Operand.tmp 17)) 30 "run.go:54" #[(Edge.mk 0 Ground.data)] Option.none), (Oper.mk (Option.some 19) (Op.move (Operand.tmp 10)) 3 "run.go:54" #[(Edge.mk 3 (Ground.gcOnly Departure.lateStores))] Option.none), (Oper.mk Option.none (Op.store 30 (Operand.tmp 3) (Operand.tmp 18)) 0 "run.go:54" #[(Edge.mk 1 Ground.data), (Edge.mk 0 Ground.phase), (Edge.mk 1 Ground.phase), (Edge.mk 2 (Ground.textOnly Departure.lateStores))] Option.none), (Oper.mk Option.none (Op.store 3 (Operand.tmp 9) (Operand.tmp 19)) 0 "run.go:54" #[(Edge.mk 2 Ground.data), (Edge.mk 3 Ground.chain), (Edge.mk 0 Ground.phase), (Edge.mk 1 Ground.phase), (Edge.mk 2 Ground.phase), (Edge.mk 3 Ground.phase)] Option.none)] false) (Code.seq (Code.region 6 #[(Oper.mk (Option.some 20) (Op.fieldAddr 30 (Operand.tmp 3) 0) 0 "run.go:55" #[] Option.none), (Oper.mk (Option.some 21) (Op.fieldAddr 26 (Operand.tmp 20) 1) 0 "run.go:55" #[(Edge.mk 0 Ground.data)] Option.none), (Oper.mk (Option.some 22) (Op.load 22 (Operand.tmp 21)) 22 "run.go:55" #[(Edge.mk 1 Ground.data)] Option.none), (Oper.mk (Option.some 23) (Op.load 22 (Operand.tmp 5)) 22 "run.go:55" #[] Option.none), (Oper.mk (Option.some 24) (Op.binOp BinOp.eql 22 (Operand.tmp 22) (Operand.tmp 23) 22) 4 "run.go:55" #[(Edge.mk 2 Ground.data), (Edge.mk 3 Ground.data)] Option.none)] false) (Code.cond (Operand.tmp 24) (Code.seq (Code.region 7 #[(Oper.mk (Option.some 25) (Op.load 30 (Operand.tmp 3)) 30 "run.go:56" #[] Option.none), (Oper.mk (Option.some 26) (Op.load 3 (Operand.tmp 9)) 3 "run.go:56" #[] Option.none), (Oper.mk Option.none (Op.store 30 (Operand.tmp 6) (Operand.tmp 25)) 0 "run.go:56" #[(Edge.mk 0 Ground.data), (Edge.mk 0 Ground.phase), (Edge.mk 1 (Ground.textOnly Departure.inlinedCapture))] Option.none), (Oper.mk Option.none (Op.store 3 (Operand.tmp 7) (Operand.tmp 26)) 0 "run.go:56" #[(Edge.mk 1 Ground.data), (Edge.mk 2 Ground.chain), (Edge.mk 0 Ground.phase), (Edge.mk 1 Ground.phase), (Edge.mk 2 Ground.phase)] Option.none), (Oper.mk Option.none (Op.store 4 (Operand.tmp 8) (Operand.const (Value.bool true))) 0 "run.go:56" #[(Edge.mk 3 Ground.chain), (Edge.mk 0 Ground.phase), (Edge.mk 1 Ground.phase), (Edge.mk 2 Ground.phase), (Edge.mk 3 Ground.phase)] Option.none)] true) Code.ret) Code.skip)))) LoopState.ready Option.none)) [(SV.yld 9), (SV.loc 0 0 0 1), (SV.loc 1 0 0 1), (SV.loc 2 0 0 1), (SV.v (Value.int IntKind.i64 (0 : Int)))] [(Blk.cells [(SV.arr IntKind.u32 16 m.core.regs), (SV.v (Value.int IntKind.u32 m.core.pc)), (SV.arr IntKind.u32 12 m.core.csr), (SV.rd ETy.u8 m.mem), (SV.v (Value.int IntKind.u64 m.time)), (SV.rd ETy.u8 m.out), (SV.v (Value.bool m.halted))] 30), (Blk.cells [(SV.v (Value.int IntKind.i64 n))] 3), (Blk.cells [(SV.arr IntKind.u32 16 m.core.regs), (SV.v (Value.int IntKind.u32 m.core.pc)), (SV.arr IntKind.u32 12 m.core.csr), (SV.rd ETy.u8 m.mem), (SV.v (Value.int IntKind.u64 m.time)), (SV.rd ETy.u8 m.out), (SV.v (Value.bool m.halted)), (SV.v (Value.int IntKind.i64 (0 : Int))), (SV.v (Value.int IntKind.u32 (0 : Int)))] 55), (Blk.cells [(SV.arr IntKind.u32 16 m.core.regs), (SV.v (Value.int IntKind.u32 m.core.pc)), (SV.arr IntKind.u32 12 m.core.csr), (SV.rd ETy.u8 m.mem), (SV.v (Value.int IntKind.u64 m.time)), (SV.rd ETy.u8 m.out), (SV.v (Value.bool m.halted))] 30), (Blk.cells [(SV.v (Value.int IntKind.u32 pc))] 22), (Blk.cells [(SV.arr IntKind.u32 16 [(0 : Int), (0 : Int), (0 : Int), (0 : Int), (0 : Int), (0 : Int), (0 : Int), (0 : Int), (0 : Int), (0 : Int), (0 : Int), (0 : Int), (0 : Int), (0 : Int), (0 : Int), (0 : Int)]), (SV.v (Value.int IntKind.u32 (0 : Int))), (SV.arr IntKind.u32 12 [(0 : Int), (0 : Int), (0 : Int), (0 : Int), (0 : Int), (0 : Int), (0 : Int), (0 : Int), (0 : Int), (0 : Int), (0 : Int), (0 : Int)]), (SV.v (Value.slice Option.none 0 0)), (SV.v (Value.int IntKind.u64 (0 : Int))), (SV.v (Value.slice Option.none 0 0)), (SV.b false)] 30), (Blk.cells [(SV.v (Value.int IntKind.i64 (0 : Int)))] 3), (Blk.cells [(SV.b false)] 4), (Blk.cells [(SV.v (Value.int IntKind.i64 (0 : Int)))] 3), (Blk.lp [(SV.agg [(SV.arr IntKind.u32 16 m.core.regs), (SV.v (Value.int IntKind.u32 m.core.pc)), (SV.arr IntKind.u32 12 m.core.csr), (SV.rd ETy.u8 m.mem), (SV.v (Value.int IntKind.u64 m.time)), (SV.rd ETy.u8 m.out), (SV.v (Value.bool m.halted))]), (SV.v (Value.int IntKind.i64 n)), (SV.v (Value.int IntKind.u32 pc)), (SV.loc 3 0 0 1), SV.undef, (SV.loc 4 0 0 1), (SV.loc 5 0 0 1), (SV.loc 6 0 0 1), (SV.loc 7 0 0 1), (SV.loc 8 0 0 1), SV.undef, SV.undef, (SV.agg [(SV.arr IntKind.u32 16 m.core.regs), (SV.v (Value.int IntKind.u32 m.core.pc)), (SV.arr IntKind.u32 12 m.core.csr), (SV.rd ETy.u8 m.mem), (SV.v (Value.int IntKind.u64 m.time)), (SV.rd ETy.u8 m.out), (SV.v (Value.bool m.halted))]), (SV.v (Value.int IntKind.i64 n)), SV.junk, SV.undef, SV.undef, SV.undef, SV.undef, SV.undef, SV.undef, SV.undef, SV.undef, SV.undef, SV.undef, SV.undef, SV.undef, SV.undef, SV.undef] #[15, 16] (Code.seq (Code.region 3 #[(Oper.mk (Option.some 10) (Op.assign (Operand.tmp 15)) 3 "run.go:53" #[] Option.none)] false) (Code.region 4 #[(Oper.mk (Option.some 11) (Op.alloc 55) 0 "run.go:53" #[] Option.none), (Oper.mk Option.none (Op.store 55 (Operand.tmp 11) (Operand.tmp 16)) 0 "run.go:53" #[(Edge.mk 0 Ground.data), (Edge.mk 0 Ground.phase)] Option.none)] false)) (Code.block 1 (Code.seq (Code.region 5 #[(Oper.mk (Option.some 17) (Op.fieldAddr 55 (Operand.tmp 11) 0) 0 "run.go:54" #[] Option.none), (Oper.mk (Option.some 18) (Op.load 30 (Operand.tmp 17)) 30 "run.go:54" #[(Edge.mk 0 Ground.data)] Option.none), (Oper.mk (Option.some 19) (Op.move (Operand.tmp 10)) 3 "run.go:54" #[(Edge.mk 3 (Ground.gcOnly Departure.lateStores))] Option.none), (Oper.mk Option.none (Op.store 30 (Operand.tmp 3) (Operand.tmp 18)) 0 "run.go:54" #[(Edge.mk 1 Ground.data), (Edge.mk 0 Ground.phase), (Edge.mk 1 Ground.phase), (Edge.mk 2 (Ground.textOnly Departure.lateStores))] Option.none), (Oper.mk Option.none (Op.store 3 (Operand.tmp 9) (Operand.tmp 19)) 0 "run.go:54" #[(Edge.mk 2 Ground.data), (Edge.mk 3 Ground.chain), (Edge.mk 0 Ground.phase), (Edge.mk 1 Ground.phase), (Edge.mk 2 Ground.phase), (Edge.mk 3 Ground.phase)] Option.none)] false) (Code.seq (Code.region 6 #[(Oper.mk (Option.some 20) (Op.fieldAddr 30 (Operand.tmp 3) 0) 0 "run.go:55" #[] Option.none), (Oper.mk (Option.some 21) (Op.fieldAddr 26 (Operand.tmp 20) 1) 0 "run.go:55" #[(Edge.mk 0 Ground.data)] Option.none), (Oper.mk (Option.some 22) (Op.load 22 (Operand.tmp 21)) 22 "run.go:55" #[(Edge.mk 1 Ground.data)] Option.none), (Oper.mk (Option.some 23) (Op.load 22 (Operand.tmp 5)) 22 "run.go:55" #[] Option.none), (Oper.mk (Option.some 24) (Op.binOp BinOp.eql 22 (Operand.tmp 22) (Operand.tmp 23) 22) 4 "run.go:55" #[(Edge.mk 2 Ground.data), (Edge.mk 3 Ground.data)] Option.none)] false) (Code.cond (Operand.tmp 24) (Code.seq (Code.region 7 #[(Oper.mk (Option.some 25) (Op.load 30 (Operand.tmp 3)) 30 "run.go:56" #[] Option.none), (Oper.mk (Option.some 26) (Op.load 3 (Operand.tmp 9)) 3 "run.go:56" #[] Option.none), (Oper.mk Option.none (Op.store 30 (Operand.tmp 6) (Operand.tmp 25)) 0 "run.go:56" #[(Edge.mk 0 Ground.data), (Edge.mk 0 Ground.phase), (Edge.mk 1 (Ground.textOnly Departure.inlinedCapture))] Option.none), (Oper.mk Option.none (Op.store 3 (Operand.tmp 7) (Operand.tmp 26)) 0 "run.go:56" #[(Edge.mk 1 Ground.data), (Edge.mk 2 Ground.chain), (Edge.mk 0 Ground.phase), (Edge.mk 1 Ground.phase), (Edge.mk 2 Ground.phase)] Option.none), (Oper.mk Option.none (Op.store 4 (Operand.tmp 8) (Operand.const (Value.bool true))) 0 "run.go:56" #[(Edge.mk 3 Ground.chain), (Edge.mk 0 Ground.phase), (Edge.mk 1 Ground.phase), (Edge.mk 2 Ground.phase), (Edge.mk 3 Ground.phase)] Option.none)] true) Code.ret) Code.skip)))) LoopState.ready Option.none), Blk.dfr] fun (x0 : Nat) =>
 (bif (BEq.beq (K.runS m x0).fst.core.pc pc) then
 (Tree.leaf (SV.tup [(SV.agg [(SV.arr IntKind.u32 16 (K.runS m x0).fst.core.regs), (SV.v (Value.int IntKind.u32 (K.runS m x0).fst.core.pc)), (SV.arr IntKind.u32 12 (K.runS m x0).fst.core.csr), (SV.rd ETy.u8 (K.runS m x0).fst.mem), (SV.v (Value.int IntKind.u64 (K.runS m x0).fst.time)), (SV.rd ETy.u8 (K.runS m x0).fst.out), (SV.v (Value.bool (K.runS m x0).fst.halted))]), (SV.v (Value.int IntKind.i64 (Int.ofNat x0))), (SV.b true)]))
 else
 (bif (decide ((Int.ofNat x0) ≥ n)) then
 (Tree.leaf (SV.tup [(SV.agg [(SV.arr IntKind.u32 16 (K.runS m x0).fst.core.regs), (SV.v (Value.int IntKind.u32 (K.runS m x0).fst.core.pc)), (SV.arr IntKind.u32 12 (K.runS m x0).fst.core.csr), (SV.rd ETy.u8 (K.runS m x0).fst.mem), (SV.v (Value.int IntKind.u64 (K.runS m x0).fst.time)), (SV.rd ETy.u8 (K.runS m x0).fst.out), (SV.v (Value.bool (K.runS m x0).fst.halted))]), (SV.v (Value.int IntKind.i64 (Int.ofNat x0))), (SV.b false)]))
 else
 (bif (K.runS m x0).fst.halted then
 (Tree.leaf (SV.tup [(SV.agg [(SV.arr IntKind.u32 16 (K.runS m x0).fst.core.regs), (SV.v (Value.int IntKind.u32 (K.runS m x0).fst.core.pc)), (SV.arr IntKind.u32 12 (K.runS m x0).fst.core.csr), (SV.rd ETy.u8 (K.runS m x0).fst.mem), (SV.v (Value.int IntKind.u64 (K.runS m x0).fst.time)), (SV.rd ETy.u8 (K.runS m x0).fst.out), (SV.v (Value.bool (K.runS m x0).fst.halted))]), (SV.v (Value.int IntKind.i64 (Int.ofNat x0))), (SV.b false)]))
 else
 (bif (decide (And ((List.length (K.runS m x0).fst.mem) ≤ 1099511627776) ((List.length (K.runS m x0).fst.out) ≤ 1099511627776))) then
 (Tree.letv (okO [AT.mach, AT.trap]) (K.step (K.runS m x0).fst) fun x1 =>
 ((Tree.next 0 [(SV.yld 9), (SV.loc 0 0 0 1), (SV.loc 1 0 0 1), (SV.loc 2 0 0 1), (SV.v (Value.int IntKind.i64 (IntKind.wrap IntKind.i64 ((Int.ofNat x0) + (1 : Int)))))] [(Blk.cells [(SV.arr IntKind.u32 16 m.core.regs), (SV.v (Value.int IntKind.u32 m.core.pc)), (SV.arr IntKind.u32 12 m.core.csr), (SV.rd ETy.u8 m.mem), (SV.v (Value.int IntKind.u64 m.time)), (SV.rd ETy.u8 m.out), (SV.v (Value.bool m.halted))] 30), (Blk.cells [(SV.v (Value.int IntKind.i64 n))] 3), (Blk.cells [(SV.arr IntKind.u32 16 x1.fst.core.regs), (SV.v (Value.int IntKind.u32 x1.fst.core.pc)), (SV.arr IntKind.u32 12 x1.fst.core.csr), (SV.rd ETy.u8 x1.fst.mem), (SV.v (Value.int IntKind.u64 x1.fst.time)), (SV.rd ETy.u8 x1.fst.out), (SV.v (Value.bool x1.fst.halted)), (SV.v (Value.int IntKind.i64 x1.snd.cause)), (SV.v (Value.int IntKind.u32 x1.snd.tval))] 55), (Blk.cells [(SV.arr IntKind.u32 16 (K.runS m x0).fst.core.regs), (SV.v (Value.int IntKind.u32 (K.runS m x0).fst.core.pc)), (SV.arr IntKind.u32 12 (K.runS m x0).fst.core.csr), (SV.rd ETy.u8 (K.runS m x0).fst.mem), (SV.v (Value.int IntKind.u64 (K.runS m x0).fst.time)), (SV.rd ETy.u8 (K.runS m x0).fst.out), (SV.v (Value.bool (K.runS m x0).fst.halted))] 30), (Blk.cells [(SV.v (Value.int IntKind.u32 pc))] 22), (Blk.cells [(SV.arr IntKind.u32 16 [(0 : Int), (0 : Int), (0 : Int), (0 : Int), (0 : Int), (0 : Int), (0 : Int), (0 : Int), (0 : Int), (0 : Int), (0 : Int), (0 : Int), (0 : Int), (0 : Int), (0 : Int), (0 : Int)]), (SV.v (Value.int IntKind.u32 (0 : Int))), (SV.arr IntKind.u32 12 [(0 : Int), (0 : Int), (0 : Int), (0 : Int), (0 : Int), (0 : Int), (0 : Int), (0 : Int), (0 : Int), (0 : Int), (0 : Int), (0 : Int)]), (SV.v (Value.slice Option.none 0 0)), (SV.v (Value.int IntKind.u64 (0 : Int))), (SV.v (Value.slice Option.none 0 0)), (SV.b false)] 30), (Blk.cells [(SV.v (Value.int IntKind.i64 (0 : Int)))] 3), (Blk.cells [(SV.b false)] 4), (Blk.cells [(SV.v (Value.int IntKind.i64 (Int.ofNat x0)))] 3), (Blk.lp [(SV.agg [(SV.arr IntKind.u32 16 m.core.regs), (SV.v (Value.int IntKind.u32 m.core.pc)), (SV.arr IntKind.u32 12 m.core.csr), (SV.rd ETy.u8 m.mem), (SV.v (Value.int IntKind.u64 m.time)), (SV.rd ETy.u8 m.out), (SV.v (Value.bool m.halted))]), (SV.v (Value.int IntKind.i64 n)), (SV.v (Value.int IntKind.u32 pc)), (SV.loc 3 0 0 1), SV.undef, (SV.loc 4 0 0 1), (SV.loc 5 0 0 1), (SV.loc 6 0 0 1), (SV.loc 7 0 0 1), (SV.loc 8 0 0 1), SV.undef, SV.undef, (SV.agg [(SV.arr IntKind.u32 16 m.core.regs), (SV.v (Value.int IntKind.u32 m.core.pc)), (SV.arr IntKind.u32 12 m.core.csr), (SV.rd ETy.u8 m.mem), (SV.v (Value.int IntKind.u64 m.time)), (SV.rd ETy.u8 m.out), (SV.v (Value.bool m.halted))]), (SV.v (Value.int IntKind.i64 n)), SV.junk, SV.undef, SV.undef, SV.undef, SV.undef, SV.undef, SV.undef, SV.undef, SV.undef, SV.undef, SV.undef, SV.undef, SV.undef, SV.undef, SV.undef] #[15, 16] (Code.seq (Code.region 3 #[(Oper.mk (Option.some 10) (Op.assign (Operand.tmp 15)) 3 "run.go:53" #[] Option.none)] false) (Code.region 4 #[(Oper.mk (Option.some 11) (Op.alloc 55) 0 "run.go:53" #[] Option.none), (Oper.mk Option.none (Op.store 55 (Operand.tmp 11) (Operand.tmp 16)) 0 "run.go:53" #[(Edge.mk 0 Ground.data), (Edge.mk 0 Ground.phase)] Option.none)] false)) (Code.block 1 (Code.seq (Code.region 5 #[(Oper.mk (Option.some 17) (Op.fieldAddr 55 (Operand.tmp 11) 0) 0 "run.go:54" #[] Option.none), (Oper.mk (Option.some 18) (Op.load 30 (Operand.tmp 17)) 30 "run.go:54" #[(Edge.mk 0 Ground.data)] Option.none), (Oper.mk (Option.some 19) (Op.move (Operand.tmp 10)) 3 "run.go:54" #[(Edge.mk 3 (Ground.gcOnly Departure.lateStores))] Option.none), (Oper.mk Option.none (Op.store 30 (Operand.tmp 3) (Operand.tmp 18)) 0 "run.go:54" #[(Edge.mk 1 Ground.data), (Edge.mk 0 Ground.phase), (Edge.mk 1 Ground.phase), (Edge.mk 2 (Ground.textOnly Departure.lateStores))] Option.none), (Oper.mk Option.none (Op.store 3 (Operand.tmp 9) (Operand.tmp 19)) 0 "run.go:54" #[(Edge.mk 2 Ground.data), (Edge.mk 3 Ground.chain), (Edge.mk 0 Ground.phase), (Edge.mk 1 Ground.phase), (Edge.mk 2 Ground.phase), (Edge.mk 3 Ground.phase)] Option.none)] false) (Code.seq (Code.region 6 #[(Oper.mk (Option.some 20) (Op.fieldAddr 30 (Operand.tmp 3) 0) 0 "run.go:55" #[] Option.none), (Oper.mk (Option.some 21) (Op.fieldAddr 26 (Operand.tmp 20) 1) 0 "run.go:55" #[(Edge.mk 0 Ground.data)] Option.none), (Oper.mk (Option.some 22) (Op.load 22 (Operand.tmp 21)) 22 "run.go:55" #[(Edge.mk 1 Ground.data)] Option.none), (Oper.mk (Option.some 23) (Op.load 22 (Operand.tmp 5)) 22 "run.go:55" #[] Option.none), (Oper.mk (Option.some 24) (Op.binOp BinOp.eql 22 (Operand.tmp 22) (Operand.tmp 23) 22) 4 "run.go:55" #[(Edge.mk 2 Ground.data), (Edge.mk 3 Ground.data)] Option.none)] false) (Code.cond (Operand.tmp 24) (Code.seq (Code.region 7 #[(Oper.mk (Option.some 25) (Op.load 30 (Operand.tmp 3)) 30 "run.go:56" #[] Option.none), (Oper.mk (Option.some 26) (Op.load 3 (Operand.tmp 9)) 3 "run.go:56" #[] Option.none), (Oper.mk Option.none (Op.store 30 (Operand.tmp 6) (Operand.tmp 25)) 0 "run.go:56" #[(Edge.mk 0 Ground.data), (Edge.mk 0 Ground.phase), (Edge.mk 1 (Ground.textOnly Departure.inlinedCapture))] Option.none), (Oper.mk Option.none (Op.store 3 (Operand.tmp 7) (Operand.tmp 26)) 0 "run.go:56" #[(Edge.mk 1 Ground.data), (Edge.mk 2 Ground.chain), (Edge.mk 0 Ground.phase), (Edge.mk 1 Ground.phase), (Edge.mk 2 Ground.phase)] Option.none), (Oper.mk Option.none (Op.store 4 (Operand.tmp 8) (Operand.const (Value.bool true))) 0 "run.go:56" #[(Edge.mk 3 Ground.chain), (Edge.mk 0 Ground.phase), (Edge.mk 1 Ground.phase), (Edge.mk 2 Ground.phase), (Edge.mk 3 Ground.phase)] Option.none)] true) Code.ret) Code.skip)))) LoopState.ready Option.none), Blk.dfr])))
 else
 (Tree.fail))))) := by kernel_rfl
section
attribute [local irreducible] evF evFL evFLs evFM
theorem a_run_RunUntil (m : PMach) (n : Int) (pc : Int) (hpre : n ≤ 100 ∧ m.mem.length ≤ 1073741824 ∧ m.out.length ≤ 1073741824) (ok_m : okMach m) (ok_n : okI .i64 n) (ok_pc : okI .u32 pc) : (evFM E_run_RunUntil (fun b => if b = 0 then some (fun s => L_runU m n pc (recAtU s [1, 2, 4, 1003, 1005, 1006, 1007, 1008, 1009])) else none) [] 60 14 (encArgs [.mach, .i .i64, .i .u32] (m, n, pc, ()))).ends fun out_ => decO [.mach, .i .i64, .b] out_ = some (K.runUntil m n pc) := by
  rw [t_run_RunUntil, Tree.ends_holds]
  obtain ⟨hn, hm, ho⟩ := hpre
  rw [Tree.holds_loop]
  refine ⟨⟨(0 : Nat), rfl, rfl, ⟨Nat.zero_le _, rfl, rfl, Nat.le_refl _⟩, trivial⟩, fun (i : Nat) hx => ?_⟩
  obtain ⟨i1, i2, i3, i4⟩ := hx
  have i1 : i ≤ 100 := i1
  have i2 : K.untilEnd m n pc (200 - i) i = K.untilN m n pc := i2
  have i3 : (K.runS m i).1.mem.length = m.mem.length := i3
  have i4 : (K.runS m i).1.out.length ≤ m.out.length + i := i4
  have w1 : IntKind.i64.wrap ((i : Int) + 1) = ((i + 1 : Nat) : Int) := by rw [wrapI64 (by omega) (by omega)]; rfl
  rw [show 200 - i = (199 - i) + 1 by omega] at i2
  have i2 : (if (K.runS m i).1.core.pc = pc ∨ (i : Int) ≥ n ∨ (K.runS m i).1.halted = true then i else K.untilEnd m n pc (199 - i) (i + 1)) = K.untilN m n pc := i2
  have sl := step_lens (K.runS m i).1
  simp only [Tree.holds_loop, Tree.holds_fork, Tree.holds_next, if_true, Tree.holds_cond, Tree.holds_letv, Tree.holds_leaf, Tree.holds_fail, decO, decA, decTup, decMach, decCore, decTrap, decInstr, decPart, decGuest, decConf, decEvent, decVcpu, decStep, bytesS, boolS, eventsS, intsS, guestsS, vcpusS, rowS, castL, Option.bind_some, Option.map_some, Option.some.injEq, Nat.beq_refl, beq_self_eq_true, Bool.and_self, cond_true, cond_false, eq_self, beq_iff_eq, beq_eq_false_iff_ne, bne_iff_ne, bne_eq_false_iff_eq, ne_eq, decide_eq_true_eq, decide_eq_false_iff_not, ble_true, ble_false, inRange_iff, inRange_false, Int.ofNat_eq_natCast, Int.toNat_natCast, w1]
  by_cases hx : (K.runS m i).1.core.pc = pc ∨ (i : Int) ≥ n ∨ (K.runS m i).1.halted = true
  · rw [if_pos hx] at i2
    have hr : K.runUntil m n pc = ((K.runS m i).1, (i : Int), (K.runS m i).1.core.pc == pc) := by unfold K.runUntil; rw [← i2]
    rw [hr]
    repeat' (first | refine drop_ok ?_ | intro _ | with_reducible apply And.intro)
    all_goals first
      | (rename_i q; rw [beq_iff_eq.2 q]; done)
      | (have : ((K.runS m i).1.core.pc == pc) = false := beq_eq_false_iff_ne.2 (by assumption)
         rw [this]; done)
      | (exfalso; omega)
      | (exfalso; rcases hx with q | q | q
         · exact absurd q (by assumption)
         · exact absurd q (by assumption)
         · simp_all)
      | trace_state
  · rw [if_neg hx] at i2
    have hpc : ¬ (K.runS m i).1.core.pc = pc := fun q => hx (.inl q)
    have hlt : (i : Int) < n := by
      have := fun q => hx (.inr (.inl q))
      omega
    have hh : (K.runS m i).1.halted = false := by
      cases hq : (K.runS m i).1.halted with
      | false => rfl
      | true => exact absurd (.inr (.inr hq)) hx
    refine ⟨fun q => absurd q hpc, fun _ => ⟨fun q => absurd q (by omega), fun _ => ⟨(fun q => by rw [hh] at q; cases q), fun _ => ⟨fun _ => fun _ => ?_, fun q => ?_⟩⟩⟩⟩
    · refine ⟨i + 1, rfl, rfl, ⟨by show i + 1 ≤ 100; omega, ?_, ?_, ?_⟩, by show 200 - (i + 1) < 200 - i; omega⟩
      · show K.untilEnd m n pc (200 - (i + 1)) (i + 1) = _
        rw [show 200 - (i + 1) = 199 - i by omega]; exact i2
      · show (K.step (K.runS m i).1).1.mem.length = _
        omega
      · show (K.step (K.runS m i).1).1.out.length ≤ _
        omega
    · exfalso; apply q; exact ⟨by omega, by omega⟩
  
theorem c_run_RunUntil : SpecOk EB_0_1_2 14 S_run_RunUntil := spec_sigM ok_run_RunUntil (n := 60) (fun (m, n, pc, _) => fun b => if b = 0 then some (fun s => L_runU m n pc (recAtU s [1, 2, 4, 1003, 1005, 1006, 1007, 1008, 1009])) else none) [] fun ⟨m, n, pc, ⟨⟩⟩ h hok => a_run_RunUntil m n pc (of_decide_eq_true h) (ok_mach (okSL_head hok)) (ok_int (okSL_head (okSL_tail hok))) (ok_int (okSL_head (okSL_tail (okSL_tail hok))))
end

/-! run_Traps -/
def recAtT (s : St) (keys : List Nat) : Blk := match s.T 0 with
  | .yld kl => match keysD s [kl, kl - 1] keys with
    | some ks => match (s.M kl).bind (renB (ks ++ [kl, kl - 1])) with
      | some b => b
      | none => .dfr
    | none => .dfr
  | _ => .dfr
@[reducible] def L_runT (m : PMach) (n : Int) (R : Blk) : LoopSpec where
  σ := Nat
  slots := [0, 1, 2, 4, 5]
  keys := [1, 2, 4, 1002, 1005, 2005]
  vals := fun i => [.yld 6, .loc 0 0 0 1, .loc 1 0 0 1, .loc 2 0 0 1, .v (.int .i64 (i : Int))]
  blks := fun i => [.cells (machC m) 30, .cells [.v (.int .i64 n)] 3, .cells (machC (K.runS m i).1 ++ trapC (K.runS m i).2) 55, .cells (machC m) 30, .cells [.own 5] 36, .row .trap (K.trapsTo m i) 50, R, .dfr]
  inv := fun i => i ≤ 100 ∧ K.runEnd m n (200 - i) i = K.runN m n ∧ (K.runS m i).1.mem.length = m.mem.length ∧ (K.runS m i).1.out.length ≤ m.out.length + i ∧ (K.trapsTo m i).length ≤ i
  mu := fun i => 200 - i
def S_run_Traps : Spec := sig [.mach, .i .i64] [.rd .trap] (fun (m, n, _) => K.traps m n) (pre := fun (m, n, _) => decide (n ≤ 100 ∧ m.mem.length ≤ 1073741824 ∧ m.out.length ≤ 1073741824))
noncomputable def E_run_Traps : Env := EB_0_1_2.adds [(23, S_step_Step)]

theorem ok_run_Traps : EnvOk E_run_Traps := okEB_0_1_2.adds (l := _) ⟨c_step_Step, trivial⟩

theorem t_run_Traps (m : PMach) (n : Int) : evFM E_run_Traps (fun b => if b = 0 then some (fun s => L_runT m n (recAtT s [1, 2, 4, 1002, 1005, 2005])) else none) [(5, (.trap, 50))] 60 12 (encArgs [.mach, .i .i64] (m, n, ())) = 
 Tree.loop 0 (L_runT m n (Blk.lp [(SV.agg [(SV.arr IntKind.u32 16 m.core.regs), (SV.v (Value.int IntKind.u32 m.core.pc)), (SV.arr IntKind.u32 12 m.core.csr), (SV.rd ETy.u8 m.mem), (SV.v (Value.int IntKind.u64 m.time)), (SV.rd ETy.u8 m.out), (SV.v (Value.bool m.halted))]), (SV.v (Value.int IntKind.i64 n)), (SV.loc 3 0 0 1), SV.undef, (SV.v (Value.slice Option.none 0 0)), (SV.loc 4 0 0 1), SV.undef, SV.undef, (SV.agg [(SV.arr IntKind.u32 16 m.core.regs), (SV.v (Value.int IntKind.u32 m.core.pc)), (SV.arr IntKind.u32 12 m.core.csr), (SV.rd ETy.u8 m.mem), (SV.v (Value.int IntKind.u64 m.time)), (SV.rd ETy.u8 m.out), (SV.v (Value.bool m.halted))]), (SV.v (Value.int IntKind.i64 n)), SV.junk, SV.undef, SV.undef, SV.undef, SV.undef, SV.undef, SV.undef, SV.undef, SV.undef, SV.undef, SV.undef, SV.undef, SV.undef] #[11, 12] (Code.region 3 #[(Oper.mk (Option.some 7) (Op.alloc 55) 0 "run.go:42" #[] Option.none), (Oper.mk Option.none (Op.store 55 (Operand.tmp 7) (Operand.tmp 12)) 0 "run.go:42" #[(Edge.mk 0 Ground.data), (Edge.mk 0 Ground.phase)] Option.none)] false) (Code.block 1 (Code.seq (Code.region 4 #[(Oper.mk (Option.some 13) (Op.fieldAddr 55 (Operand.tmp 7) 1) 0 "run.go:43" #[] Option.none), (Oper.mk (Option.some 14) (Op.fieldAddr 50 (Operand.tmp 13) 0) 0 "run.go:43" #[(Edge.mk 0 Ground.data)] Option.none), (Oper.mk (Option.some 15) (Op.load 3 (Operand.tmp 14)) 3 "run.go:43" #[(Edge.mk 1 Ground.data)] Option.none), (Oper.mk (Option.some 16) (Op.binOp BinOp.neq 3 (Operand.tmp 15) (Operand.const (Value.int IntKind.i64 (0 : Int))) 3) 4 "run.go:43" #[(Edge.mk 2 Ground.data)] Option.none)] false) (Code.cond (Operand.tmp 16) (Code.region 5 #[(Oper.mk (Option.some 17) (Op.load 36 (Operand.tmp 5)) 36 "run.go:44" #[] Option.none), (Oper.mk (Option.some 18) (Op.fieldAddr 55 (Operand.tmp 7) 1) 0 "run.go:44" #[] Option.none), (Oper.mk (Option.some 19) (Op.load 50 (Operand.tmp 18)) 50 "run.go:44" #[(Edge.mk 1 Ground.data)] Option.none), (Oper.mk (Option.some 20) (Op.buildSlice 36 1 #[(0, (Operand.tmp 19))]) 36 "run.go:44" #[(Edge.mk 2 Ground.data)] Option.none), (Oper.mk (Option.some 21) (Op.call (Call.mk (Callee.builtin Builtin.append) #[(Operand.tmp 17), (Operand.tmp 20)] #[36, 36])) 36 "run.go:44" #[(Edge.mk 0 Ground.data), (Edge.mk 3 Ground.data)] Option.none), (Oper.mk Option.none (Op.store 36 (Operand.tmp 5) (Operand.tmp 21)) 0 "run.go:44" #[(Edge.mk 4 Ground.data), (Edge.mk 4 Ground.chain), (Edge.mk 0 Ground.phase), (Edge.mk 1 Ground.phase), (Edge.mk 2 Ground.phase), (Edge.mk 3 Ground.phase), (Edge.mk 4 Ground.phase)] Option.none)] false) Code.skip))) LoopState.ready Option.none)) [(SV.yld 6), (SV.loc 0 0 0 1), (SV.loc 1 0 0 1), (SV.loc 2 0 0 1), (SV.v (Value.int IntKind.i64 (0 : Int)))] [(Blk.cells [(SV.arr IntKind.u32 16 m.core.regs), (SV.v (Value.int IntKind.u32 m.core.pc)), (SV.arr IntKind.u32 12 m.core.csr), (SV.rd ETy.u8 m.mem), (SV.v (Value.int IntKind.u64 m.time)), (SV.rd ETy.u8 m.out), (SV.v (Value.bool m.halted))] 30), (Blk.cells [(SV.v (Value.int IntKind.i64 n))] 3), (Blk.cells [(SV.arr IntKind.u32 16 m.core.regs), (SV.v (Value.int IntKind.u32 m.core.pc)), (SV.arr IntKind.u32 12 m.core.csr), (SV.rd ETy.u8 m.mem), (SV.v (Value.int IntKind.u64 m.time)), (SV.rd ETy.u8 m.out), (SV.v (Value.bool m.halted)), (SV.v (Value.int IntKind.i64 (0 : Int))), (SV.v (Value.int IntKind.u32 (0 : Int)))] 55), (Blk.cells [(SV.arr IntKind.u32 16 m.core.regs), (SV.v (Value.int IntKind.u32 m.core.pc)), (SV.arr IntKind.u32 12 m.core.csr), (SV.rd ETy.u8 m.mem), (SV.v (Value.int IntKind.u64 m.time)), (SV.rd ETy.u8 m.out), (SV.v (Value.bool m.halted))] 30), (Blk.cells [(SV.own 5)] 36), (Blk.row ETy.trap [] 50), (Blk.lp [(SV.agg [(SV.arr IntKind.u32 16 m.core.regs), (SV.v (Value.int IntKind.u32 m.core.pc)), (SV.arr IntKind.u32 12 m.core.csr), (SV.rd ETy.u8 m.mem), (SV.v (Value.int IntKind.u64 m.time)), (SV.rd ETy.u8 m.out), (SV.v (Value.bool m.halted))]), (SV.v (Value.int IntKind.i64 n)), (SV.loc 3 0 0 1), SV.undef, (SV.v (Value.slice Option.none 0 0)), (SV.loc 4 0 0 1), SV.undef, SV.undef, (SV.agg [(SV.arr IntKind.u32 16 m.core.regs), (SV.v (Value.int IntKind.u32 m.core.pc)), (SV.arr IntKind.u32 12 m.core.csr), (SV.rd ETy.u8 m.mem), (SV.v (Value.int IntKind.u64 m.time)), (SV.rd ETy.u8 m.out), (SV.v (Value.bool m.halted))]), (SV.v (Value.int IntKind.i64 n)), SV.junk, SV.undef, SV.undef, SV.undef, SV.undef, SV.undef, SV.undef, SV.undef, SV.undef, SV.undef, SV.undef, SV.undef, SV.undef] #[11, 12] (Code.region 3 #[(Oper.mk (Option.some 7) (Op.alloc 55) 0 "run.go:42" #[] Option.none), (Oper.mk Option.none (Op.store 55 (Operand.tmp 7) (Operand.tmp 12)) 0 "run.go:42" #[(Edge.mk 0 Ground.data), (Edge.mk 0 Ground.phase)] Option.none)] false) (Code.block 1 (Code.seq (Code.region 4 #[(Oper.mk (Option.some 13) (Op.fieldAddr 55 (Operand.tmp 7) 1) 0 "run.go:43" #[] Option.none), (Oper.mk (Option.some 14) (Op.fieldAddr 50 (Operand.tmp 13) 0) 0 "run.go:43" #[(Edge.mk 0 Ground.data)] Option.none), (Oper.mk (Option.some 15) (Op.load 3 (Operand.tmp 14)) 3 "run.go:43" #[(Edge.mk 1 Ground.data)] Option.none), (Oper.mk (Option.some 16) (Op.binOp BinOp.neq 3 (Operand.tmp 15) (Operand.const (Value.int IntKind.i64 (0 : Int))) 3) 4 "run.go:43" #[(Edge.mk 2 Ground.data)] Option.none)] false) (Code.cond (Operand.tmp 16) (Code.region 5 #[(Oper.mk (Option.some 17) (Op.load 36 (Operand.tmp 5)) 36 "run.go:44" #[] Option.none), (Oper.mk (Option.some 18) (Op.fieldAddr 55 (Operand.tmp 7) 1) 0 "run.go:44" #[] Option.none), (Oper.mk (Option.some 19) (Op.load 50 (Operand.tmp 18)) 50 "run.go:44" #[(Edge.mk 1 Ground.data)] Option.none), (Oper.mk (Option.some 20) (Op.buildSlice 36 1 #[(0, (Operand.tmp 19))]) 36 "run.go:44" #[(Edge.mk 2 Ground.data)] Option.none), (Oper.mk (Option.some 21) (Op.call (Call.mk (Callee.builtin Builtin.append) #[(Operand.tmp 17), (Operand.tmp 20)] #[36, 36])) 36 "run.go:44" #[(Edge.mk 0 Ground.data), (Edge.mk 3 Ground.data)] Option.none), (Oper.mk Option.none (Op.store 36 (Operand.tmp 5) (Operand.tmp 21)) 0 "run.go:44" #[(Edge.mk 4 Ground.data), (Edge.mk 4 Ground.chain), (Edge.mk 0 Ground.phase), (Edge.mk 1 Ground.phase), (Edge.mk 2 Ground.phase), (Edge.mk 3 Ground.phase), (Edge.mk 4 Ground.phase)] Option.none)] false) Code.skip))) LoopState.ready Option.none), Blk.dfr] fun (x0 : Nat) =>
 (bif (bne (K.runS m x0).snd.cause (0 : Int)) then
 (bif (Nat.ble (((List.length (K.trapsTo m x0)) + 1) * 16) 140737488355328) then
 (bif (decide ((Int.ofNat x0) ≥ n)) then
 (Tree.leaf (SV.rd ETy.trap (List.append (K.trapsTo m x0) [(K.runS m x0).snd])))
 else
 (bif (K.runS m x0).fst.halted then
 (Tree.leaf (SV.rd ETy.trap (List.append (K.trapsTo m x0) [(K.runS m x0).snd])))
 else
 (bif (decide (And ((List.length (K.runS m x0).fst.mem) ≤ 1099511627776) ((List.length (K.runS m x0).fst.out) ≤ 1099511627776))) then
 (Tree.letv (okO [AT.mach, AT.trap]) (K.step (K.runS m x0).fst) fun x1 =>
 ((Tree.next 0 [(SV.yld 6), (SV.loc 0 0 0 1), (SV.loc 1 0 0 1), (SV.loc 2 0 0 1), (SV.v (Value.int IntKind.i64 (IntKind.wrap IntKind.i64 ((Int.ofNat x0) + (1 : Int)))))] [(Blk.cells [(SV.arr IntKind.u32 16 m.core.regs), (SV.v (Value.int IntKind.u32 m.core.pc)), (SV.arr IntKind.u32 12 m.core.csr), (SV.rd ETy.u8 m.mem), (SV.v (Value.int IntKind.u64 m.time)), (SV.rd ETy.u8 m.out), (SV.v (Value.bool m.halted))] 30), (Blk.cells [(SV.v (Value.int IntKind.i64 n))] 3), (Blk.cells [(SV.arr IntKind.u32 16 x1.fst.core.regs), (SV.v (Value.int IntKind.u32 x1.fst.core.pc)), (SV.arr IntKind.u32 12 x1.fst.core.csr), (SV.rd ETy.u8 x1.fst.mem), (SV.v (Value.int IntKind.u64 x1.fst.time)), (SV.rd ETy.u8 x1.fst.out), (SV.v (Value.bool x1.fst.halted)), (SV.v (Value.int IntKind.i64 x1.snd.cause)), (SV.v (Value.int IntKind.u32 x1.snd.tval))] 55), (Blk.cells [(SV.arr IntKind.u32 16 m.core.regs), (SV.v (Value.int IntKind.u32 m.core.pc)), (SV.arr IntKind.u32 12 m.core.csr), (SV.rd ETy.u8 m.mem), (SV.v (Value.int IntKind.u64 m.time)), (SV.rd ETy.u8 m.out), (SV.v (Value.bool m.halted))] 30), (Blk.cells [(SV.own 5)] 36), (Blk.row ETy.trap (List.append (K.trapsTo m x0) [(K.runS m x0).snd]) 50), (Blk.lp [(SV.agg [(SV.arr IntKind.u32 16 m.core.regs), (SV.v (Value.int IntKind.u32 m.core.pc)), (SV.arr IntKind.u32 12 m.core.csr), (SV.rd ETy.u8 m.mem), (SV.v (Value.int IntKind.u64 m.time)), (SV.rd ETy.u8 m.out), (SV.v (Value.bool m.halted))]), (SV.v (Value.int IntKind.i64 n)), (SV.loc 3 0 0 1), SV.undef, (SV.v (Value.slice Option.none 0 0)), (SV.loc 4 0 0 1), SV.undef, SV.undef, (SV.agg [(SV.arr IntKind.u32 16 m.core.regs), (SV.v (Value.int IntKind.u32 m.core.pc)), (SV.arr IntKind.u32 12 m.core.csr), (SV.rd ETy.u8 m.mem), (SV.v (Value.int IntKind.u64 m.time)), (SV.rd ETy.u8 m.out), (SV.v (Value.bool m.halted))]), (SV.v (Value.int IntKind.i64 n)), SV.junk, SV.undef, SV.undef, SV.undef, SV.undef, SV.undef, SV.undef, SV.undef, SV.undef, SV.undef, SV.undef, SV.undef, SV.undef] #[11, 12] (Code.region 3 #[(Oper.mk (Option.some 7) (Op.alloc 55) 0 "run.go:42" #[] Option.none), (Oper.mk Option.none (Op.store 55 (Operand.tmp 7) (Operand.tmp 12)) 0 "run.go:42" #[(Edge.mk 0 Ground.data), (Edge.mk 0 Ground.phase)] Option.none)] false) (Code.block 1 (Code.seq (Code.region 4 #[(Oper.mk (Option.some 13) (Op.fieldAddr 55 (Operand.tmp 7) 1) 0 "run.go:43" #[] Option.none), (Oper.mk (Option.some 14) (Op.fieldAddr 50 (Operand.tmp 13) 0) 0 "run.go:43" #[(Edge.mk 0 Ground.data)] Option.none), (Oper.mk (Option.some 15) (Op.load 3 (Operand.tmp 14)) 3 "run.go:43" #[(Edge.mk 1 Ground.data)] Option.none), (Oper.mk (Option.some 16) (Op.binOp BinOp.neq 3 (Operand.tmp 15) (Operand.const (Value.int IntKind.i64 (0 : Int))) 3) 4 "run.go:43" #[(Edge.mk 2 Ground.data)] Option.none)] false) (Code.cond (Operand.tmp 16) (Code.region 5 #[(Oper.mk (Option.some 17) (Op.load 36 (Operand.tmp 5)) 36 "run.go:44" #[] Option.none), (Oper.mk (Option.some 18) (Op.fieldAddr 55 (Operand.tmp 7) 1) 0 "run.go:44" #[] Option.none), (Oper.mk (Option.some 19) (Op.load 50 (Operand.tmp 18)) 50 "run.go:44" #[(Edge.mk 1 Ground.data)] Option.none), (Oper.mk (Option.some 20) (Op.buildSlice 36 1 #[(0, (Operand.tmp 19))]) 36 "run.go:44" #[(Edge.mk 2 Ground.data)] Option.none), (Oper.mk (Option.some 21) (Op.call (Call.mk (Callee.builtin Builtin.append) #[(Operand.tmp 17), (Operand.tmp 20)] #[36, 36])) 36 "run.go:44" #[(Edge.mk 0 Ground.data), (Edge.mk 3 Ground.data)] Option.none), (Oper.mk Option.none (Op.store 36 (Operand.tmp 5) (Operand.tmp 21)) 0 "run.go:44" #[(Edge.mk 4 Ground.data), (Edge.mk 4 Ground.chain), (Edge.mk 0 Ground.phase), (Edge.mk 1 Ground.phase), (Edge.mk 2 Ground.phase), (Edge.mk 3 Ground.phase), (Edge.mk 4 Ground.phase)] Option.none)] false) Code.skip))) LoopState.ready Option.none), Blk.dfr])))
 else
 (Tree.fail))))
 else
 (Tree.fail))
 else
 (bif (decide ((Int.ofNat x0) ≥ n)) then
 (Tree.leaf (SV.rd ETy.trap (K.trapsTo m x0)))
 else
 (bif (K.runS m x0).fst.halted then
 (Tree.leaf (SV.rd ETy.trap (K.trapsTo m x0)))
 else
 (bif (decide (And ((List.length (K.runS m x0).fst.mem) ≤ 1099511627776) ((List.length (K.runS m x0).fst.out) ≤ 1099511627776))) then
 (Tree.letv (okO [AT.mach, AT.trap]) (K.step (K.runS m x0).fst) fun x1 =>
 ((Tree.next 0 [(SV.yld 6), (SV.loc 0 0 0 1), (SV.loc 1 0 0 1), (SV.loc 2 0 0 1), (SV.v (Value.int IntKind.i64 (IntKind.wrap IntKind.i64 ((Int.ofNat x0) + (1 : Int)))))] [(Blk.cells [(SV.arr IntKind.u32 16 m.core.regs), (SV.v (Value.int IntKind.u32 m.core.pc)), (SV.arr IntKind.u32 12 m.core.csr), (SV.rd ETy.u8 m.mem), (SV.v (Value.int IntKind.u64 m.time)), (SV.rd ETy.u8 m.out), (SV.v (Value.bool m.halted))] 30), (Blk.cells [(SV.v (Value.int IntKind.i64 n))] 3), (Blk.cells [(SV.arr IntKind.u32 16 x1.fst.core.regs), (SV.v (Value.int IntKind.u32 x1.fst.core.pc)), (SV.arr IntKind.u32 12 x1.fst.core.csr), (SV.rd ETy.u8 x1.fst.mem), (SV.v (Value.int IntKind.u64 x1.fst.time)), (SV.rd ETy.u8 x1.fst.out), (SV.v (Value.bool x1.fst.halted)), (SV.v (Value.int IntKind.i64 x1.snd.cause)), (SV.v (Value.int IntKind.u32 x1.snd.tval))] 55), (Blk.cells [(SV.arr IntKind.u32 16 m.core.regs), (SV.v (Value.int IntKind.u32 m.core.pc)), (SV.arr IntKind.u32 12 m.core.csr), (SV.rd ETy.u8 m.mem), (SV.v (Value.int IntKind.u64 m.time)), (SV.rd ETy.u8 m.out), (SV.v (Value.bool m.halted))] 30), (Blk.cells [(SV.own 5)] 36), (Blk.row ETy.trap (K.trapsTo m x0) 50), (Blk.lp [(SV.agg [(SV.arr IntKind.u32 16 m.core.regs), (SV.v (Value.int IntKind.u32 m.core.pc)), (SV.arr IntKind.u32 12 m.core.csr), (SV.rd ETy.u8 m.mem), (SV.v (Value.int IntKind.u64 m.time)), (SV.rd ETy.u8 m.out), (SV.v (Value.bool m.halted))]), (SV.v (Value.int IntKind.i64 n)), (SV.loc 3 0 0 1), SV.undef, (SV.v (Value.slice Option.none 0 0)), (SV.loc 4 0 0 1), SV.undef, SV.undef, (SV.agg [(SV.arr IntKind.u32 16 m.core.regs), (SV.v (Value.int IntKind.u32 m.core.pc)), (SV.arr IntKind.u32 12 m.core.csr), (SV.rd ETy.u8 m.mem), (SV.v (Value.int IntKind.u64 m.time)), (SV.rd ETy.u8 m.out), (SV.v (Value.bool m.halted))]), (SV.v (Value.int IntKind.i64 n)), SV.junk, SV.undef, SV.undef, SV.undef, SV.undef, SV.undef, SV.undef, SV.undef, SV.undef, SV.undef, SV.undef, SV.undef, SV.undef] #[11, 12] (Code.region 3 #[(Oper.mk (Option.some 7) (Op.alloc 55) 0 "run.go:42" #[] Option.none), (Oper.mk Option.none (Op.store 55 (Operand.tmp 7) (Operand.tmp 12)) 0 "run.go:42" #[(Edge.mk 0 Ground.data), (Edge.mk 0 Ground.phase)] Option.none)] false) (Code.block 1 (Code.seq (Code.region 4 #[(Oper.mk (Option.some 13) (Op.fieldAddr 55 (Operand.tmp 7) 1) 0 "run.go:43" #[] Option.none), (Oper.mk (Option.some 14) (Op.fieldAddr 50 (Operand.tmp 13) 0) 0 "run.go:43" #[(Edge.mk 0 Ground.data)] Option.none), (Oper.mk (Option.some 15) (Op.load 3 (Operand.tmp 14)) 3 "run.go:43" #[(Edge.mk 1 Ground.data)] Option.none), (Oper.mk (Option.some 16) (Op.binOp BinOp.neq 3 (Operand.tmp 15) (Operand.const (Value.int IntKind.i64 (0 : Int))) 3) 4 "run.go:43" #[(Edge.mk 2 Ground.data)] Option.none)] false) (Code.cond (Operand.tmp 16) (Code.region 5 #[(Oper.mk (Option.some 17) (Op.load 36 (Operand.tmp 5)) 36 "run.go:44" #[] Option.none), (Oper.mk (Option.some 18) (Op.fieldAddr 55 (Operand.tmp 7) 1) 0 "run.go:44" #[] Option.none), (Oper.mk (Option.some 19) (Op.load 50 (Operand.tmp 18)) 50 "run.go:44" #[(Edge.mk 1 Ground.data)] Option.none), (Oper.mk (Option.some 20) (Op.buildSlice 36 1 #[(0, (Operand.tmp 19))]) 36 "run.go:44" #[(Edge.mk 2 Ground.data)] Option.none), (Oper.mk (Option.some 21) (Op.call (Call.mk (Callee.builtin Builtin.append) #[(Operand.tmp 17), (Operand.tmp 20)] #[36, 36])) 36 "run.go:44" #[(Edge.mk 0 Ground.data), (Edge.mk 3 Ground.data)] Option.none), (Oper.mk Option.none (Op.store 36 (Operand.tmp 5) (Operand.tmp 21)) 0 "run.go:44" #[(Edge.mk 4 Ground.data), (Edge.mk 4 Ground.chain), (Edge.mk 0 Ground.phase), (Edge.mk 1 Ground.phase), (Edge.mk 2 Ground.phase), (Edge.mk 3 Ground.phase), (Edge.mk 4 Ground.phase)] Option.none)] false) Code.skip))) LoopState.ready Option.none), Blk.dfr])))
 else
 (Tree.fail))))) := by kernel_rfl
section
attribute [local irreducible] evF evFL evFLs evFM
theorem a_run_Traps (m : PMach) (n : Int) (hpre : n ≤ 100 ∧ m.mem.length ≤ 1073741824 ∧ m.out.length ≤ 1073741824) (ok_m : okMach m) (ok_n : okI .i64 n) : (evFM E_run_Traps (fun b => if b = 0 then some (fun s => L_runT m n (recAtT s [1, 2, 4, 1002, 1005, 2005])) else none) [(5, (.trap, 50))] 60 12 (encArgs [.mach, .i .i64] (m, n, ()))).ends fun out_ => decO [.rd .trap] out_ = some (K.traps m n) := by
  rw [t_run_Traps, Tree.ends_holds]
  obtain ⟨hn, hm, ho⟩ := hpre
  rw [Tree.holds_loop]
  refine ⟨⟨(0 : Nat), rfl, rfl, ⟨Nat.zero_le _, rfl, rfl, Nat.le_refl _, Nat.le_refl _⟩, trivial⟩, fun (i : Nat) hx => ?_⟩
  obtain ⟨i1, i2, i3, i4, i5⟩ := hx
  have i1 : i ≤ 100 := i1
  have i2 : K.runEnd m n (200 - i) i = K.runN m n := i2
  have i3 : (K.runS m i).1.mem.length = m.mem.length := i3
  have i4 : (K.runS m i).1.out.length ≤ m.out.length + i := i4
  have i5 : (K.trapsTo m i).length ≤ i := i5
  have w1 : IntKind.i64.wrap ((i : Int) + 1) = ((i + 1 : Nat) : Int) := by rw [wrapI64 (by omega) (by omega)]; rfl
  rw [show 200 - i = (199 - i) + 1 by omega] at i2
  have i2 : (if (i : Int) ≥ n ∨ (K.runS m i).1.halted = true then i else K.runEnd m n (199 - i) (i + 1)) = K.runN m n := i2
  have sl := step_lens (K.runS m i).1
  have ht : K.trapsTo m (i + 1) = if (K.runS m i).2.cause = 0 then K.trapsTo m i else K.trapsTo m i ++ [(K.runS m i).2] := rfl
  have at_ : ∀ l, l = K.trapsTo m (i + 1) → ¬ ((i : Int) ≥ n ∨ (K.runS m i).1.halted = true) → ∃ y : Nat, [Blk.row .trap l 50] = [Blk.row .trap (K.trapsTo m y) 50] := fun l h _ => ⟨i + 1, by rw [h]⟩
  simp only [Tree.holds_loop, Tree.holds_fork, Tree.holds_next, if_true, Tree.holds_cond, Tree.holds_letv, Tree.holds_leaf, Tree.holds_fail, decO, decA, decTup, decMach, decCore, decTrap, decInstr, decPart, decGuest, decConf, decEvent, decVcpu, decStep, bytesS, boolS, eventsS, intsS, guestsS, vcpusS, rowS, castL, Option.bind_some, Option.map_some, Option.some.injEq, Nat.beq_refl, beq_self_eq_true, Bool.and_self, cond_true, cond_false, eq_self, beq_iff_eq, beq_eq_false_iff_ne, bne_iff_ne, bne_eq_false_iff_eq, ne_eq, decide_eq_true_eq, decide_eq_false_iff_not, ble_true, ble_false, inRange_iff, inRange_false, Int.ofNat_eq_natCast, Int.toNat_natCast, w1]
  by_cases hx : (i : Int) ≥ n ∨ (K.runS m i).1.halted = true
  · rw [if_pos hx] at i2
    have hr : K.traps m n = K.trapsTo m (i + 1) := by unfold K.traps; rw [← i2]
    rw [hr, ht]
    by_cases hz : (K.runS m i).2.cause = 0
    · rw [if_pos hz]
      repeat' (first | refine drop_ok ?_ | intro _ | with_reducible apply And.intro)
      all_goals first
        | trivial
        | rfl
        | (exfalso; omega)
        | (exfalso; exact absurd hz (by assumption))
        | (exfalso; rcases hx with q | q
           · exact absurd q (by assumption)
           · simp_all)
        | trace_state
    · rw [if_neg hz]
      repeat' (first | refine drop_ok ?_ | intro _ | with_reducible apply And.intro)
      all_goals first
        | trivial
        | rfl
        | (exfalso; omega)
        | (exfalso; exact absurd (by assumption) hz)
        | (exfalso; rcases hx with q | q
           · exact absurd q (by assumption)
           · simp_all)
        | trace_state
  · rw [if_neg hx] at i2
    have hlt : (i : Int) < n := by
      have := fun q => hx (.inl q)
      omega
    have hh : (K.runS m i).1.halted = false := by
      cases hq : (K.runS m i).1.halted with
      | false => rfl
      | true => exact absurd (.inr hq) hx
    have inv2 : i + 1 ≤ 100 ∧ K.runEnd m n (200 - (i + 1)) (i + 1) = K.runN m n ∧ (K.runS m (i + 1)).1.mem.length = m.mem.length ∧ (K.runS m (i + 1)).1.out.length ≤ m.out.length + (i + 1) ∧ (K.trapsTo m (i + 1)).length ≤ i + 1 := by
      refine ⟨by omega, by rw [show 200 - (i + 1) = 199 - i by omega]; exact i2, ?_, ?_, ?_⟩
      · show (K.step (K.runS m i).1).1.mem.length = _
        omega
      · show (K.step (K.runS m i).1).1.out.length ≤ _
        omega
      · rw [ht]; split
        · omega
        · rw [List.length_append, List.length_singleton]; omega
    by_cases hz : (K.runS m i).2.cause = 0
    · rw [if_pos hz] at ht
      refine ⟨fun q => absurd hz q, fun _ => ⟨fun q => absurd q (by omega), fun _ => ⟨(fun q => by rw [hh] at q; cases q), fun _ => ⟨fun _ => fun _ => ?_, fun q => ?_⟩⟩⟩⟩
      · rw [← ht]
        exact ⟨i + 1, rfl, rfl, inv2, by show 200 - (i + 1) < 200 - i; omega⟩
      · exfalso; apply q; exact ⟨by omega, by omega⟩
    · rw [if_neg hz] at ht
      refine ⟨fun _ => ⟨fun _ => ⟨fun q => absurd q (by omega), fun _ => ⟨(fun q => by rw [hh] at q; cases q), fun _ => ⟨fun _ => fun _ => ?_, fun q => ?_⟩⟩⟩, fun q => by omega⟩, fun q => absurd q hz⟩
      · rw [show (K.trapsTo m i).append [(K.runS m i).2] = K.trapsTo m (i + 1) from ht.symm]
        exact ⟨i + 1, rfl, rfl, inv2, by show 200 - (i + 1) < 200 - i; omega⟩
      · exfalso; apply q; exact ⟨by omega, by omega⟩
  
theorem c_run_Traps : SpecOk EB_0_1_2 12 S_run_Traps := spec_sigM ok_run_Traps (n := 60) (fun (m, n, _) => fun b => if b = 0 then some (fun s => L_runT m n (recAtT s [1, 2, 4, 1002, 1005, 2005])) else none) [(5, (.trap, 50))] fun ⟨m, n, ⟨⟩⟩ h hok => a_run_Traps m n (of_decide_eq_true h) (ok_mach (okSL_head hok)) (ok_int (okSL_head (okSL_tail hok)))
end

/-! law14_awake -/

def S_law14_awake : Spec := sig [] [.b] (fun _ => true)
noncomputable def E_law14_awake : Env := EB_0_1_2.adds [(10, S_run_Run), (14, S_run_RunUntil), (12, S_run_Traps)]

theorem ok_law14_awake : EnvOk E_law14_awake := okEB_0_1_2.adds (l := _) ⟨c_run_Run, c_run_RunUntil, c_run_Traps, trivial⟩
theorem t_c_law14_awake : (evF E_law14_awake 60 8 []).inst = .leaf (.b true) := by kernel_rfl
section
attribute [local irreducible] evF
theorem c_law14_awake : SpecOk EB_0_1_2 8 S_law14_awake := spec_sig ok_law14_awake (n := 60) fun _ _ _ => Tree.of_inst (Q := .of _) (by
  show ((evF E_law14_awake 60 8 []).inst).holds _
  rw [t_c_law14_awake]; exact rfl)
end


/-! ref10_Few -/

def S_ref10_Few : Spec := sig [.mach] [.b] (fun (m, _) => K.few m)
noncomputable def E_ref10_Few : Env := EB.adds []

theorem ok_ref10_Few : EnvOk E_ref10_Few := okEB.adds (l := _) trivial

theorem t_ref10_Few (m : PMach) : evF E_ref10_Few 60 9 (encArgs [.mach] (m, ())) = 
 bif (decide ((Int.ofNat (List.length m.mem)) ≤ (600 : Int))) then
 (bif (decide ((Int.ofNat (List.length m.out)) ≤ (600 : Int))) then
 (Tree.leaf (SV.b true))
 else
 (Tree.leaf (SV.b false)))
 else
 (Tree.leaf (SV.b false)) := by kernel_rfl
section
attribute [local irreducible] evF evFL evFLs evFM
theorem a_ref10_Few (m : PMach) (ok_m : okMach m) : (evF E_ref10_Few 60 9 (encArgs [.mach] (m, ()))).ends fun out_ => decO [.b] out_ = some (K.few m) := by
  rw [t_ref10_Few, Tree.ends_holds]
  simp only [Tree.holds_loop, Tree.holds_fork, Tree.holds_next, if_true, Tree.holds_cond, Tree.holds_letv, Tree.holds_leaf, Tree.holds_fail, decO, decA, decTup, decMach, decCore, decTrap, decInstr, decPart, decGuest, decConf, decEvent, decVcpu, decStep, bytesS, boolS, eventsS, intsS, guestsS, vcpusS, rowS, castL, Option.bind_some, Option.map_some, Option.some.injEq, Nat.beq_refl, beq_self_eq_true, Bool.and_self, cond_true, cond_false, eq_self, beq_iff_eq, beq_eq_false_iff_ne, bne_iff_ne, bne_eq_false_iff_eq, ne_eq, decide_eq_true_eq, decide_eq_false_iff_not, ble_true, ble_false, inRange_iff, inRange_false]
  repeat' (first | refine drop_ok ?_ | intro _ | with_reducible apply And.intro)
  all_goals (first | omega | (simp_all [K.few]; done) | (simp_all [K.few] <;> omega) | simp_all [K.few])
  
theorem c_ref10_Few : SpecOk EB 9 S_ref10_Few := spec_sig ok_ref10_Few (n := 60) fun ⟨m, ⟨⟩⟩ h hok => a_ref10_Few m (ok_mach (okSL_head hok))
end

/-! ref05_Same -/
@[reducible] def L_ref05_Same (a b : List Int) : LoopSpec where
  σ := Nat
  slots := [0, 1, 4, 5]
  keys := []
  vals := fun j => [.rd .u8 a, .rd .u8 b, .b false, .v (.int .i64 (j : Int))]
  blks := fun _ => []
  inv := fun j => j ≤ a.length ∧ a.take j = b.take j
  mu := fun j => a.length - j
def S_ref05_Same : Spec := sig [.rd .u8, .rd .u8] [.b] (fun (a, b, _) => decide (a = b))
noncomputable def E_ref05_Same : Env := EB.adds []

theorem ok_ref05_Same : EnvOk E_ref05_Same := okEB.adds (l := _) trivial

theorem t_ref05_Same (a : List Int) (b : List Int) : evFL E_ref05_Same (fun _ => some (L_ref05_Same a b)) 60 18 (encArgs [.rd .u8, .rd .u8] (a, b, ())) = 
 bif (bne (Int.ofNat (List.length a)) (Int.ofNat (List.length b))) then
 (Tree.leaf (SV.b false))
 else
 (Tree.loop 0 (L_ref05_Same a b) [(SV.rd ETy.u8 a), (SV.rd ETy.u8 b), (SV.b false), (SV.v (Value.int IntKind.i64 (0 : Int)))] [] fun (x0 : Nat) =>
 (bif (decide ((Int.ofNat x0) < (Int.ofNat (List.length a)))) then
 (bif (inRange (Int.ofNat x0) (List.length a)) then
 (bif (inRange (Int.ofNat x0) (List.length b)) then
 (bif (bne (List.getD a (Int.toNat (Int.ofNat x0)) (0 : Int)) (List.getD b (Int.toNat (Int.ofNat x0)) (0 : Int))) then
 (Tree.leaf (SV.b false))
 else
 ((Tree.next 0 [(SV.rd ETy.u8 a), (SV.rd ETy.u8 b), (SV.b false), (SV.v (Value.int IntKind.i64 (IntKind.wrap IntKind.i64 ((Int.ofNat x0) + (1 : Int)))))] [])))
 else
 (Tree.fail))
 else
 (Tree.fail))
 else
 (Tree.leaf (SV.b true)))) := by kernel_rfl
section
attribute [local irreducible] evF evFL evFLs evFM
theorem a_ref05_Same (a : List Int) (b : List Int) (ok_a : okBytes a) (ok_b : okBytes b) : (evFL E_ref05_Same (fun _ => some (L_ref05_Same a b)) 60 18 (encArgs [.rd .u8, .rd .u8] (a, b, ()))).ends fun out_ => decO [.b] out_ = some (decide (a = b)) := by
  rw [t_ref05_Same, Tree.ends_holds]
  simp only [Tree.holds_cond, Tree.holds_leaf, Tree.holds_loop]
  refine ⟨fun h => ?_, fun h => ?_⟩
  · have h : ¬ ((a.length : Int) = (b.length : Int)) := by simpa using h
    have : a ≠ b := fun e => h (by rw [e])
    simp [decO, decA, decTup, decMach, decCore, decTrap, decInstr, decPart, decGuest, decConf, decEvent, decVcpu, decStep, bytesS, boolS, eventsS, intsS, guestsS, vcpusS, rowS, castL, Option.bind_some, Option.map_some, Option.some.injEq, Nat.beq_refl, beq_self_eq_true, Bool.and_self, cond_true, cond_false, eq_self, this]
  have hl : (a.length : Int) = (b.length : Int) := by simpa using h
  have hl : a.length = b.length := by omega
  have hlim : a.length ≤ 140737488355328 := ok_a.1
  refine ⟨⟨(0 : Nat), rfl, rfl, ⟨Nat.zero_le _, rfl⟩, trivial⟩, fun (j : Nat) ⟨hj, he⟩ => ?_⟩
  simp only [Tree.holds_loop, Tree.holds_fork, Tree.holds_next, if_true, Tree.holds_cond, Tree.holds_letv, Tree.holds_leaf, Tree.holds_fail]
  refine ⟨fun h => ?_, fun h => ?_⟩
  · have hlt : j < a.length := by simpa using h
    have r1 : inRange (j : Int) a.length = true := inRange_iff.2 ⟨by omega, by omega⟩
    have r2 : inRange (j : Int) b.length = true := inRange_iff.2 ⟨by omega, by omega⟩
    have e2 : IntKind.i64.wrap ((j : Int) + 1) = ((j + 1 : Nat) : Int) := by rw [wrapI64 (by omega) (by omega)]; rfl
    have ga : a.getD j 0 = a[j] := by simp [hlt]
    have gb : b.getD j 0 = b[j]'(by omega) := by simp [show j < b.length by omega]
    simp only [Int.ofNat_eq_natCast, Int.toNat_natCast, r1, r2, ga, gb]
    simp only [true_implies, Bool.true_eq_false, false_implies, and_true]
    refine ⟨fun q => ?_, fun q => ?_⟩
    · have : a ≠ b := fun e => by subst e; simp at q
      simp [decO, decA, decTup, decMach, decCore, decTrap, decInstr, decPart, decGuest, decConf, decEvent, decVcpu, decStep, bytesS, boolS, eventsS, intsS, guestsS, vcpusS, rowS, castL, Option.bind_some, Option.map_some, Option.some.injEq, Nat.beq_refl, beq_self_eq_true, Bool.and_self, cond_true, cond_false, eq_self, this]
    · have q : a[j] = b[j]'(by omega) := by simpa using q
      refine ⟨j + 1, by rw [e2], rfl, ⟨by omega, ?_⟩, by show a.length - (j + 1) < a.length - j; omega⟩
      rw [List.take_succ_eq_append_getElem hlt, List.take_succ_eq_append_getElem (show j < b.length by omega), he, q]
  · have : j = a.length := by simp at h; omega
    subst this
    have : a = b := by rw [List.take_length] at he; rw [hl, List.take_length] at he; exact he
    simp [decO, decA, decTup, decMach, decCore, decTrap, decInstr, decPart, decGuest, decConf, decEvent, decVcpu, decStep, bytesS, boolS, eventsS, intsS, guestsS, vcpusS, rowS, castL, Option.bind_some, Option.map_some, Option.some.injEq, Nat.beq_refl, beq_self_eq_true, Bool.and_self, cond_true, cond_false, eq_self, this]
  
theorem c_ref05_Same : SpecOk EB 18 S_ref05_Same := spec_sigL ok_ref05_Same (n := 60) (fun (a, b, _) => fun _ => some (L_ref05_Same a b)) fun ⟨a, b, ⟨⟩⟩ h hok => a_ref05_Same a b (ok_bytes (okSL_head hok)) (ok_bytes (okSL_head (okSL_tail hok)))
end

/-! ref10_Same -/

def S_ref10_Same : Spec := sig [.mach, .mach] [.b] (fun (a, b, _) => decide (a = b))
noncomputable def E_ref10_Same : Env := EB.adds [(18, S_ref05_Same)]

theorem ok_ref10_Same : EnvOk E_ref10_Same := okEB.adds (l := _) ⟨c_ref05_Same, trivial⟩

theorem t_ref10_Same (a : PMach) (b : PMach) : evF E_ref10_Same 60 11 (encArgs [.mach, .mach] (a, b, ())) = 
 bif (Bool.and (decide (a.core.regs = b.core.regs)) (Bool.and (BEq.beq a.core.pc b.core.pc) (Bool.and (decide (a.core.csr = b.core.csr)) true))) then
 (Tree.letv (okO [AT.b]) (decide (a.mem = b.mem)) fun x0 =>
 (bif x0 then
 (bif (BEq.beq a.time b.time) then
 (Tree.letv (okO [AT.b]) (decide (a.out = b.out)) fun x1 =>
 (bif x1 then
 (bif a.halted then
 (bif b.halted then
 (Tree.leaf (SV.b true))
 else
 (Tree.leaf (SV.b false)))
 else
 (bif b.halted then
 (Tree.leaf (SV.b false))
 else
 (Tree.leaf (SV.b true))))
 else
 (Tree.leaf (SV.b false))))
 else
 (Tree.leaf (SV.b false)))
 else
 (Tree.leaf (SV.b false))))
 else
 (Tree.leaf (SV.b false)) := by kernel_rfl
section
attribute [local irreducible] evF evFL evFLs evFM
theorem a_ref10_Same (a : PMach) (b : PMach) (ok_a : okMach a) (ok_b : okMach b) : (evF E_ref10_Same 60 11 (encArgs [.mach, .mach] (a, b, ()))).ends fun out_ => decO [.b] out_ = some (decide (a = b)) := by
  rw [t_ref10_Same, Tree.ends_holds]
  simp only [Tree.holds_loop, Tree.holds_fork, Tree.holds_next, if_true, Tree.holds_cond, Tree.holds_letv, Tree.holds_leaf, Tree.holds_fail, decO, decA, decTup, decMach, decCore, decTrap, decInstr, decPart, decGuest, decConf, decEvent, decVcpu, decStep, bytesS, boolS, eventsS, intsS, guestsS, vcpusS, rowS, castL, Option.bind_some, Option.map_some, Option.some.injEq, Nat.beq_refl, beq_self_eq_true, Bool.and_self, cond_true, cond_false, eq_self]
  have key : a = b ↔ (a.core.regs = b.core.regs ∧ a.core.pc = b.core.pc ∧ a.core.csr = b.core.csr ∧ a.mem = b.mem ∧ a.time = b.time ∧ a.out = b.out ∧ a.halted = b.halted) := by
    constructor
    · rintro rfl; simp
    · rintro ⟨h1, h2, h3, h4, h5, h6, h7⟩; exact mach_ext (core_ext h1 h2 h3) h4 h5 h6 h7
  simp only [key]
  repeat' (first | refine drop_ok ?_ | intro _ | with_reducible apply And.intro)
  all_goals simp_all
  
theorem c_ref10_Same : SpecOk EB 11 S_ref10_Same := spec_sig ok_ref10_Same (n := 60) fun ⟨a, b, ⟨⟩⟩ h hok => a_ref10_Same a b (ok_mach (okSL_head hok)) (ok_mach (okSL_head (okSL_tail hok)))
end

/-! law14_RunsDoNotModify -/

def S_law14_RunsDoNotModify : Spec := sig [.mach, .i .u8] [.b] (fun (m, n, _) => true)
noncomputable def E_law14_RunsDoNotModify : Env := EB_0_1_2.adds [(8, S_law14_awake), (9, S_ref10_Few), (10, S_run_Run), (14, S_run_RunUntil), (12, S_run_Traps), (11, S_ref10_Same)]

theorem ok_law14_RunsDoNotModify : EnvOk E_law14_RunsDoNotModify := okEB_0_1_2.adds (l := _) ⟨c_law14_awake, (up_to_0_1_2 c_ref10_Few), c_run_Run, c_run_RunUntil, c_run_Traps, (up_to_0_1_2 c_ref10_Same), trivial⟩

theorem t_law14_RunsDoNotModify (m : PMach) (n : Int) : evF E_law14_RunsDoNotModify 60 6 (encArgs [.mach, .i .u8] (m, n, ())) = 
 Tree.letv (okO [AT.b]) true fun x0 =>
 (bif x0 then
 (Tree.letv (okO [AT.b]) (K.few m) fun x1 =>
 (bif x1 then
 (bif (decide (n > (20 : Int))) then
 (Tree.letv (okO [AT.b]) true fun x2 =>
 (bif x2 then
 (Tree.leaf (SV.b true))
 else
 (Tree.leaf (SV.b false))))
 else
 (bif (Bool.or (Bool.not (Nat.beq (List.length m.mem) 0)) true) then
 (bif (Nat.ble ((0 + (List.length m.mem)) * 1) 140737488355328) then
 (bif (Bool.or (Bool.not (Nat.beq (List.length m.out) 0)) true) then
 (bif (Nat.ble ((0 + (List.length m.out)) * 1) 140737488355328) then
 (bif (Nat.ble (((List.length m.out) + 2) * 1) 140737488355328) then
 (bif (Bool.and (decide ((0 : Int) ≤ (Int.ofNat (List.length m.out)))) (decide ((Int.ofNat (List.length m.out)) ≤ (Int.ofNat (List.length (List.append m.out [(77 : Int), (78 : Int)])))))) then
 (bif (decide (And ((IntKind.wrap IntKind.i64 n) ≤ (100 : Int)) (And ((List.length m.mem) ≤ 1073741824) ((List.length (List.drop 0 (List.take (Int.toNat (Int.ofNat (List.length m.out))) (List.append m.out [(77 : Int), (78 : Int)])))) ≤ 1073741824)))) then
 (Tree.letv (okO [AT.mach, (AT.i IntKind.i64)]) (K.run (PMach.mk m.core m.mem m.time (List.drop 0 (List.take (Int.toNat (Int.ofNat (List.length m.out))) (List.append m.out [(77 : Int), (78 : Int)]))) m.halted) (IntKind.wrap IntKind.i64 n)) fun x2 =>
 (bif (decide (And ((IntKind.wrap IntKind.i64 n) ≤ (100 : Int)) (And ((List.length m.mem) ≤ 1073741824) ((List.length (List.drop 0 (List.take (Int.toNat (Int.ofNat (List.length m.out))) (List.append m.out [(77 : Int), (78 : Int)])))) ≤ 1073741824)))) then
 (Tree.letv (okO [AT.mach, (AT.i IntKind.i64), AT.b]) (K.runUntil (PMach.mk m.core m.mem m.time (List.drop 0 (List.take (Int.toNat (Int.ofNat (List.length m.out))) (List.append m.out [(77 : Int), (78 : Int)]))) m.halted) (IntKind.wrap IntKind.i64 n) (4 : Int)) fun x3 =>
 (bif (decide (And ((IntKind.wrap IntKind.i64 n) ≤ (100 : Int)) (And ((List.length m.mem) ≤ 1073741824) ((List.length (List.drop 0 (List.take (Int.toNat (Int.ofNat (List.length m.out))) (List.append m.out [(77 : Int), (78 : Int)])))) ≤ 1073741824)))) then
 (Tree.letv (okO [(AT.rd ETy.trap)]) (K.traps (PMach.mk m.core m.mem m.time (List.drop 0 (List.take (Int.toNat (Int.ofNat (List.length m.out))) (List.append m.out [(77 : Int), (78 : Int)]))) m.halted) (IntKind.wrap IntKind.i64 n)) fun x4 =>
 (Tree.letv (okO [AT.b]) (decide ((PMach.mk m.core m.mem m.time (List.drop 0 (List.take (Int.toNat (Int.ofNat (List.length m.out))) (List.append m.out [(77 : Int), (78 : Int)]))) m.halted) = m)) fun x5 =>
 (bif x5 then
 (bif (inRange (Int.ofNat (List.length m.out)) (List.length (List.append m.out [(77 : Int), (78 : Int)]))) then
 (bif (BEq.beq (List.getD (List.append m.out [(77 : Int), (78 : Int)]) (Int.toNat (Int.ofNat (List.length m.out))) (0 : Int)) (77 : Int)) then
 (bif (inRange (IntKind.wrap IntKind.i64 ((Int.ofNat (List.length m.out)) + (1 : Int))) (List.length (List.append m.out [(77 : Int), (78 : Int)]))) then
 (bif (BEq.beq (List.getD (List.append m.out [(77 : Int), (78 : Int)]) (Int.toNat (IntKind.wrap IntKind.i64 ((Int.ofNat (List.length m.out)) + (1 : Int)))) (0 : Int)) (78 : Int)) then
 (Tree.leaf (SV.b true))
 else
 (Tree.leaf (SV.b false)))
 else
 (Tree.fail))
 else
 (Tree.leaf (SV.b false)))
 else
 (Tree.fail))
 else
 (Tree.leaf (SV.b false)))))
 else
 (Tree.fail)))
 else
 (Tree.fail)))
 else
 (Tree.fail))
 else
 (Tree.fail))
 else
 (Tree.fail))
 else
 (Tree.fail))
 else
 (Tree.fail))
 else
 (Tree.fail))
 else
 (Tree.fail)))
 else
 (Tree.letv (okO [AT.b]) true fun x2 =>
 (bif x2 then
 (Tree.leaf (SV.b true))
 else
 (Tree.leaf (SV.b false))))))
 else
 (Tree.letv (okO [AT.b]) true fun x1 =>
 (bif x1 then
 (Tree.leaf (SV.b true))
 else
 (Tree.leaf (SV.b false))))) := by kernel_rfl
section
attribute [local irreducible] evF evFL evFLs evFM
theorem a_law14_RunsDoNotModify (m : PMach) (n : Int) (ok_m : okMach m) (ok_n : okI .u8 n) : (evF E_law14_RunsDoNotModify 60 6 (encArgs [.mach, .i .u8] (m, n, ()))).ends fun out_ => decO [.b] out_ = some (true) := by
  rw [t_law14_RunsDoNotModify, Tree.ends_holds]
  obtain ⟨n0, n1⟩ := okI_u8 ok_n
  have w1 : IntKind.i64.wrap n = n := wrapI64 (by omega) (by omega)
  have f5 : K.few m = true → m.mem.length ≤ 600 ∧ m.out.length ≤ 600 := fun h => by simpa only [K.few, Bool.and_eq_true, decide_eq_true_eq] using h
  have t1 : List.take m.out.length (m.out ++ [77, 78]) = m.out := List.take_left' rfl
  have t2 : (m.out ++ [77, 78]).length = m.out.length + 2 := by rw [List.length_append]; rfl
  have t3 : (m.out ++ [77, 78]).getD m.out.length 0 = 77 := by simp
  have t4 : (m.out ++ [77, 78]).getD (m.out.length + 1) 0 = 78 := by
    rw [List.getD_eq_getElem?_getD, List.getElem?_append_right (by omega)]; simp
  simp only [Tree.holds_loop, Tree.holds_fork, Tree.holds_next, if_true, Tree.holds_cond, Tree.holds_letv, Tree.holds_leaf, Tree.holds_fail, decO, decA, decTup, decMach, decCore, decTrap, decInstr, decPart, decGuest, decConf, decEvent, decVcpu, decStep, bytesS, boolS, eventsS, intsS, guestsS, vcpusS, rowS, castL, Option.bind_some, Option.map_some, Option.some.injEq, Nat.beq_refl, beq_self_eq_true, Bool.and_self, cond_true, cond_false, eq_self, beq_iff_eq, beq_eq_false_iff_ne, bne_iff_ne, bne_eq_false_iff_eq, ne_eq, decide_eq_true_eq, decide_eq_false_iff_not, ble_true, ble_false, inRange_iff, inRange_false, List.append_eq, List.drop_zero, Int.ofNat_eq_natCast, Int.toNat_natCast, w1, t1, t2, t3, Bool.and_eq_true, decide_eq_true_eq]
  repeat' (first | refine drop_ok ?_ | intro _ | with_reducible apply And.intro)
  all_goals first | trivial | skip
  all_goals
    obtain ⟨l1, l2⟩ := f5 (by assumption)
    have w2 : IntKind.i64.wrap ((m.out.length : Int) + 1) = ((m.out.length + 1 : Nat) : Int) := by rw [wrapI64 (by omega) (by omega)]; rfl
    simp only [w2, Int.toNat_natCast, t4] at *
    first
      | trivial
      | (exfalso; omega)
      | (exfalso; rename_i hq; exact absurd rfl hq)
      | (exfalso; rename_i hq; rw [Bool.or_true] at hq; exact Bool.noConfusion hq)
      | (exfalso; rename_i hq; apply hq; exact ⟨by omega, by omega, by omega⟩)
      | (exfalso; rename_i hq; apply hq; constructor <;> omega)
      | (exfalso; rename_i hq _ _ _; rw [decide_eq_true (by omega), decide_eq_true (by omega)] at hq; exact Bool.noConfusion hq)
      | (exfalso; rename_i hq; rw [decide_eq_true (by omega), decide_eq_true (by omega)] at hq; exact Bool.noConfusion hq)
      | (simp_all; done)
      | trace_state
  
theorem c_law14_RunsDoNotModify : SpecOk EB_0_1_2 6 S_law14_RunsDoNotModify := spec_sig ok_law14_RunsDoNotModify (n := 60) fun ⟨m, n, ⟨⟩⟩ h hok => a_law14_RunsDoNotModify m n (ok_mach (okSL_head hok)) (ok_int (okSL_head (okSL_tail hok)))
end


end Go.Proofs.YtchljgmcempedaaDoor
