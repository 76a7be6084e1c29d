/- Contracts of functions, by evaluation (nothing is claimed here). -/
import Derived.Test.YtmbmahgaejcjiaaGreatDoorSh29
import Derived.KernelRfl
import Derived.Test.YtmbmahgaejcjiaaGreatDoorProg
import Derived.Test.YtmbmahgaejcjiaaGreatDoorTimeSlicesComposeB2
set_option linter.unusedVariables false
set_option linter.unusedSimpArgs false
set_option maxRecDepth 100000
set_option maxHeartbeats 1000000
namespace Go.Proofs.YtmbmahgaejcjiaaGreatDoor
open Go
/-! shadow_Dispatch -/

def S_shadow_Dispatch : Spec := sig [.mach, .vcpu, .part, .i .u64] [.mach] (fun (host, v, p, alarm, _) => K.dispatch host v p alarm)
noncomputable def E_shadow_Dispatch : Env := EB.adds [(57, S_save_Restore), (58, S_reloc_Compose)]

theorem ok_shadow_Dispatch : EnvOk E_shadow_Dispatch := okEB.adds (l := _) ⟨c_save_Restore, c_reloc_Compose, trivial⟩

theorem t_shadow_Dispatch (host : PMach) (v : PVcpu) (p : PPart) (alarm : Int) : evF E_shadow_Dispatch 60 32 (encArgs [.mach, .vcpu, .part, .i .u64] (host, v, p, alarm, ())) = 
 Tree.letv (okO [AT.mach]) (K.restore host v) fun x0 =>
 (Tree.letv (okO [(AT.i IntKind.u32), (AT.i IntKind.u32)]) (K.compose p v.core) fun x1 =>
 (Tree.fork
 (Tree.fork
 (Tree.triv)
 (Tree.fork
 (Tree.fork
 (Tree.triv)
 (Tree.fork
 (Tree.triv)
 (Tree.fork
 (Tree.fork
 (Tree.triv)
 (Tree.fork
 (Tree.triv)
 (Tree.fork
 (Tree.triv)
 (Tree.fork
 (Tree.fork
 (Tree.triv)
 (Tree.fork
 (Tree.triv)
 (Tree.fork
 (Tree.triv)
 (Tree.fork
 (Tree.triv)
 (Tree.fork
 (Tree.fork
 (Tree.triv)
 (Tree.fork
 (Tree.triv)
 (Tree.fork
 (Tree.triv)
 (Tree.fork
 (Tree.triv)
 (Tree.fork
 (Tree.triv)
 (Tree.leaf (SV.agg [(SV.arr IntKind.u32 16 x0.core.regs), (SV.v (Value.int IntKind.u32 x0.core.pc)), (SV.arr IntKind.u32 12 (List.set (List.set (List.set (List.set (List.set x0.core.csr 0 (2 : Int)) 5 x1.fst) 6 x1.snd) 9 (IntKind.wrap IntKind.u32 alarm)) 10 (IntKind.wrap IntKind.u32 (Int.fdiv alarm (4294967296 : Int))))), (SV.rd ETy.u8 x0.mem), (SV.v (Value.int IntKind.u64 x0.time)), (SV.rd ETy.u8 x0.out), (SV.v (Value.bool x0.halted))])))))))
 (Tree.triv))))))
 (Tree.fork
 (Tree.fork
 (Tree.triv)
 (Tree.fork
 (Tree.triv)
 (Tree.fork
 (Tree.triv)
 (Tree.fork
 (Tree.fork
 (Tree.triv)
 (Tree.fork
 (Tree.triv)
 (Tree.fork
 (Tree.triv)
 (Tree.fork
 (Tree.triv)
 (Tree.fork
 (Tree.triv)
 (Tree.leaf (SV.agg [(SV.arr IntKind.u32 16 x0.core.regs), (SV.v (Value.int IntKind.u32 x0.core.pc)), (SV.arr IntKind.u32 12 (List.set (List.set (List.set (List.set (List.set x0.core.csr 0 (2 : Int)) 5 x1.fst) 6 x1.snd) 10 (IntKind.wrap IntKind.u32 (Int.fdiv alarm (4294967296 : Int)))) 9 (IntKind.wrap IntKind.u32 alarm))), (SV.rd ETy.u8 x0.mem), (SV.v (Value.int IntKind.u64 x0.time)), (SV.rd ETy.u8 x0.out), (SV.v (Value.bool x0.halted))])))))))
 (Tree.fork
 (Tree.triv)
 (Tree.triv))))))
 (Tree.triv))))))
 (Tree.fork
 (Tree.fork
 (Tree.triv)
 (Tree.fork
 (Tree.triv)
 (Tree.fork
 (Tree.fork
 (Tree.triv)
 (Tree.fork
 (Tree.triv)
 (Tree.fork
 (Tree.triv)
 (Tree.fork
 (Tree.triv)
 (Tree.fork
 (Tree.fork
 (Tree.triv)
 (Tree.fork
 (Tree.triv)
 (Tree.fork
 (Tree.triv)
 (Tree.fork
 (Tree.triv)
 (Tree.fork
 (Tree.triv)
 (Tree.leaf (SV.agg [(SV.arr IntKind.u32 16 x0.core.regs), (SV.v (Value.int IntKind.u32 x0.core.pc)), (SV.arr IntKind.u32 12 (List.set (List.set (List.set (List.set (List.set x0.core.csr 0 (2 : Int)) 5 x1.fst) 9 (IntKind.wrap IntKind.u32 alarm)) 6 x1.snd) 10 (IntKind.wrap IntKind.u32 (Int.fdiv alarm (4294967296 : Int))))), (SV.rd ETy.u8 x0.mem), (SV.v (Value.int IntKind.u64 x0.time)), (SV.rd ETy.u8 x0.out), (SV.v (Value.bool x0.halted))])))))))
 (Tree.triv))))))
 (Tree.fork
 (Tree.triv)
 (Tree.fork
 (Tree.fork
 (Tree.triv)
 (Tree.fork
 (Tree.triv)
 (Tree.fork
 (Tree.fork
 (Tree.triv)
 (Tree.fork
 (Tree.triv)
 (Tree.fork
 (Tree.triv)
 (Tree.fork
 (Tree.triv)
 (Tree.fork
 (Tree.triv)
 (Tree.leaf (SV.agg [(SV.arr IntKind.u32 16 x0.core.regs), (SV.v (Value.int IntKind.u32 x0.core.pc)), (SV.arr IntKind.u32 12 (List.set (List.set (List.set (List.set (List.set x0.core.csr 0 (2 : Int)) 5 x1.fst) 9 (IntKind.wrap IntKind.u32 alarm)) 10 (IntKind.wrap IntKind.u32 (Int.fdiv alarm (4294967296 : Int)))) 6 x1.snd)), (SV.rd ETy.u8 x0.mem), (SV.v (Value.int IntKind.u64 x0.time)), (SV.rd ETy.u8 x0.out), (SV.v (Value.bool x0.halted))])))))))
 (Tree.fork
 (Tree.triv)
 (Tree.fork
 (Tree.triv)
 (Tree.triv))))))
 (Tree.triv))))))
 (Tree.fork
 (Tree.fork
 (Tree.triv)
 (Tree.fork
 (Tree.triv)
 (Tree.fork
 (Tree.fork
 (Tree.triv)
 (Tree.fork
 (Tree.triv)
 (Tree.fork
 (Tree.triv)
 (Tree.fork
 (Tree.fork
 (Tree.triv)
 (Tree.fork
 (Tree.triv)
 (Tree.fork
 (Tree.triv)
 (Tree.fork
 (Tree.triv)
 (Tree.fork
 (Tree.triv)
 (Tree.leaf (SV.agg [(SV.arr IntKind.u32 16 x0.core.regs), (SV.v (Value.int IntKind.u32 x0.core.pc)), (SV.arr IntKind.u32 12 (List.set (List.set (List.set (List.set (List.set x0.core.csr 0 (2 : Int)) 5 x1.fst) 10 (IntKind.wrap IntKind.u32 (Int.fdiv alarm (4294967296 : Int)))) 6 x1.snd) 9 (IntKind.wrap IntKind.u32 alarm))), (SV.rd ETy.u8 x0.mem), (SV.v (Value.int IntKind.u64 x0.time)), (SV.rd ETy.u8 x0.out), (SV.v (Value.bool x0.halted))])))))))
 (Tree.fork
 (Tree.triv)
 (Tree.triv))))))
 (Tree.fork
 (Tree.fork
 (Tree.triv)
 (Tree.fork
 (Tree.triv)
 (Tree.fork
 (Tree.fork
 (Tree.triv)
 (Tree.fork
 (Tree.triv)
 (Tree.fork
 (Tree.triv)
 (Tree.fork
 (Tree.triv)
 (Tree.fork
 (Tree.triv)
 (Tree.leaf (SV.agg [(SV.arr IntKind.u32 16 x0.core.regs), (SV.v (Value.int IntKind.u32 x0.core.pc)), (SV.arr IntKind.u32 12 (List.set (List.set (List.set (List.set (List.set x0.core.csr 0 (2 : Int)) 5 x1.fst) 10 (IntKind.wrap IntKind.u32 (Int.fdiv alarm (4294967296 : Int)))) 9 (IntKind.wrap IntKind.u32 alarm)) 6 x1.snd)), (SV.rd ETy.u8 x0.mem), (SV.v (Value.int IntKind.u64 x0.time)), (SV.rd ETy.u8 x0.out), (SV.v (Value.bool x0.halted))])))))))
 (Tree.fork
 (Tree.triv)
 (Tree.fork
 (Tree.triv)
 (Tree.triv))))))
 (Tree.fork
 (Tree.triv)
 (Tree.triv))))))
 (Tree.triv))))))
 (Tree.fork
 (Tree.fork
 (Tree.triv)
 (Tree.fork
 (Tree.fork
 (Tree.triv)
 (Tree.fork
 (Tree.triv)
 (Tree.fork
 (Tree.triv)
 (Tree.fork
 (Tree.fork
 (Tree.triv)
 (Tree.fork
 (Tree.triv)
 (Tree.fork
 (Tree.triv)
 (Tree.fork
 (Tree.triv)
 (Tree.fork
 (Tree.fork
 (Tree.triv)
 (Tree.fork
 (Tree.triv)
 (Tree.fork
 (Tree.triv)
 (Tree.fork
 (Tree.triv)
 (Tree.fork
 (Tree.triv)
 (Tree.leaf (SV.agg [(SV.arr IntKind.u32 16 x0.core.regs), (SV.v (Value.int IntKind.u32 x0.core.pc)), (SV.arr IntKind.u32 12 (List.set (List.set (List.set (List.set (List.set x0.core.csr 0 (2 : Int)) 6 x1.snd) 5 x1.fst) 9 (IntKind.wrap IntKind.u32 alarm)) 10 (IntKind.wrap IntKind.u32 (Int.fdiv alarm (4294967296 : Int))))), (SV.rd ETy.u8 x0.mem), (SV.v (Value.int IntKind.u64 x0.time)), (SV.rd ETy.u8 x0.out), (SV.v (Value.bool x0.halted))])))))))
 (Tree.triv))))))
 (Tree.fork
 (Tree.fork
 (Tree.triv)
 (Tree.fork
 (Tree.triv)
 (Tree.fork
 (Tree.triv)
 (Tree.fork
 (Tree.fork
 (Tree.triv)
 (Tree.fork
 (Tree.triv)
 (Tree.fork
 (Tree.triv)
 (Tree.fork
 (Tree.triv)
 (Tree.fork
 (Tree.triv)
 (Tree.leaf (SV.agg [(SV.arr IntKind.u32 16 x0.core.regs), (SV.v (Value.int IntKind.u32 x0.core.pc)), (SV.arr IntKind.u32 12 (List.set (List.set (List.set (List.set (List.set x0.core.csr 0 (2 : Int)) 6 x1.snd) 5 x1.fst) 10 (IntKind.wrap IntKind.u32 (Int.fdiv alarm (4294967296 : Int)))) 9 (IntKind.wrap IntKind.u32 alarm))), (SV.rd ETy.u8 x0.mem), (SV.v (Value.int IntKind.u64 x0.time)), (SV.rd ETy.u8 x0.out), (SV.v (Value.bool x0.halted))])))))))
 (Tree.fork
 (Tree.triv)
 (Tree.triv))))))
 (Tree.triv))))))
 (Tree.fork
 (Tree.triv)
 (Tree.fork
 (Tree.fork
 (Tree.triv)
 (Tree.fork
 (Tree.fork
 (Tree.triv)
 (Tree.fork
 (Tree.triv)
 (Tree.fork
 (Tree.triv)
 (Tree.fork
 (Tree.triv)
 (Tree.fork
 (Tree.fork
 (Tree.triv)
 (Tree.fork
 (Tree.triv)
 (Tree.fork
 (Tree.triv)
 (Tree.fork
 (Tree.triv)
 (Tree.fork
 (Tree.triv)
 (Tree.leaf (SV.agg [(SV.arr IntKind.u32 16 x0.core.regs), (SV.v (Value.int IntKind.u32 x0.core.pc)), (SV.arr IntKind.u32 12 (List.set (List.set (List.set (List.set (List.set x0.core.csr 0 (2 : Int)) 6 x1.snd) 9 (IntKind.wrap IntKind.u32 alarm)) 5 x1.fst) 10 (IntKind.wrap IntKind.u32 (Int.fdiv alarm (4294967296 : Int))))), (SV.rd ETy.u8 x0.mem), (SV.v (Value.int IntKind.u64 x0.time)), (SV.rd ETy.u8 x0.out), (SV.v (Value.bool x0.halted))])))))))
 (Tree.triv))))))
 (Tree.fork
 (Tree.triv)
 (Tree.fork
 (Tree.triv)
 (Tree.fork
 (Tree.fork
 (Tree.triv)
 (Tree.fork
 (Tree.fork
 (Tree.triv)
 (Tree.fork
 (Tree.triv)
 (Tree.fork
 (Tree.triv)
 (Tree.fork
 (Tree.triv)
 (Tree.fork
 (Tree.triv)
 (Tree.leaf (SV.agg [(SV.arr IntKind.u32 16 x0.core.regs), (SV.v (Value.int IntKind.u32 x0.core.pc)), (SV.arr IntKind.u32 12 (List.set (List.set (List.set (List.set (List.set x0.core.csr 0 (2 : Int)) 6 x1.snd) 9 (IntKind.wrap IntKind.u32 alarm)) 10 (IntKind.wrap IntKind.u32 (Int.fdiv alarm (4294967296 : Int)))) 5 x1.fst)), (SV.rd ETy.u8 x0.mem), (SV.v (Value.int IntKind.u64 x0.time)), (SV.rd ETy.u8 x0.out), (SV.v (Value.bool x0.halted))])))))))
 (Tree.fork
 (Tree.triv)
 (Tree.fork
 (Tree.triv)
 (Tree.fork
 (Tree.triv)
 (Tree.triv))))))
 (Tree.triv))))))
 (Tree.fork
 (Tree.fork
 (Tree.triv)
 (Tree.fork
 (Tree.fork
 (Tree.triv)
 (Tree.fork
 (Tree.triv)
 (Tree.fork
 (Tree.triv)
 (Tree.fork
 (Tree.fork
 (Tree.triv)
 (Tree.fork
 (Tree.triv)
 (Tree.fork
 (Tree.triv)
 (Tree.fork
 (Tree.triv)
 (Tree.fork
 (Tree.triv)
 (Tree.leaf (SV.agg [(SV.arr IntKind.u32 16 x0.core.regs), (SV.v (Value.int IntKind.u32 x0.core.pc)), (SV.arr IntKind.u32 12 (List.set (List.set (List.set (List.set (List.set x0.core.csr 0 (2 : Int)) 6 x1.snd) 10 (IntKind.wrap IntKind.u32 (Int.fdiv alarm (4294967296 : Int)))) 5 x1.fst) 9 (IntKind.wrap IntKind.u32 alarm))), (SV.rd ETy.u8 x0.mem), (SV.v (Value.int IntKind.u64 x0.time)), (SV.rd ETy.u8 x0.out), (SV.v (Value.bool x0.halted))])))))))
 (Tree.fork
 (Tree.triv)
 (Tree.triv))))))
 (Tree.fork
 (Tree.triv)
 (Tree.fork
 (Tree.fork
 (Tree.triv)
 (Tree.fork
 (Tree.fork
 (Tree.triv)
 (Tree.fork
 (Tree.triv)
 (Tree.fork
 (Tree.triv)
 (Tree.fork
 (Tree.triv)
 (Tree.fork
 (Tree.triv)
 (Tree.leaf (SV.agg [(SV.arr IntKind.u32 16 x0.core.regs), (SV.v (Value.int IntKind.u32 x0.core.pc)), (SV.arr IntKind.u32 12 (List.set (List.set (List.set (List.set (List.set x0.core.csr 0 (2 : Int)) 6 x1.snd) 10 (IntKind.wrap IntKind.u32 (Int.fdiv alarm (4294967296 : Int)))) 9 (IntKind.wrap IntKind.u32 alarm)) 5 x1.fst)), (SV.rd ETy.u8 x0.mem), (SV.v (Value.int IntKind.u64 x0.time)), (SV.rd ETy.u8 x0.out), (SV.v (Value.bool x0.halted))])))))))
 (Tree.fork
 (Tree.triv)
 (Tree.fork
 (Tree.triv)
 (Tree.fork
 (Tree.triv)
 (Tree.triv))))))
 (Tree.fork
 (Tree.triv)
 (Tree.triv))))))
 (Tree.triv))))))
 (Tree.fork
 (Tree.fork
 (Tree.triv)
 (Tree.fork
 (Tree.fork
 (Tree.triv)
 (Tree.fork
 (Tree.triv)
 (Tree.fork
 (Tree.fork
 (Tree.triv)
 (Tree.fork
 (Tree.triv)
 (Tree.fork
 (Tree.triv)
 (Tree.fork
 (Tree.triv)
 (Tree.fork
 (Tree.fork
 (Tree.triv)
 (Tree.fork
 (Tree.triv)
 (Tree.fork
 (Tree.triv)
 (Tree.fork
 (Tree.triv)
 (Tree.fork
 (Tree.triv)
 (Tree.leaf (SV.agg [(SV.arr IntKind.u32 16 x0.core.regs), (SV.v (Value.int IntKind.u32 x0.core.pc)), (SV.arr IntKind.u32 12 (List.set (List.set (List.set (List.set (List.set x0.core.csr 0 (2 : Int)) 9 (IntKind.wrap IntKind.u32 alarm)) 5 x1.fst) 6 x1.snd) 10 (IntKind.wrap IntKind.u32 (Int.fdiv alarm (4294967296 : Int))))), (SV.rd ETy.u8 x0.mem), (SV.v (Value.int IntKind.u64 x0.time)), (SV.rd ETy.u8 x0.out), (SV.v (Value.bool x0.halted))])))))))
 (Tree.triv))))))
 (Tree.fork
 (Tree.triv)
 (Tree.fork
 (Tree.fork
 (Tree.triv)
 (Tree.fork
 (Tree.triv)
 (Tree.fork
 (Tree.fork
 (Tree.triv)
 (Tree.fork
 (Tree.triv)
 (Tree.fork
 (Tree.triv)
 (Tree.fork
 (Tree.triv)
 (Tree.fork
 (Tree.triv)
 (Tree.leaf (SV.agg [(SV.arr IntKind.u32 16 x0.core.regs), (SV.v (Value.int IntKind.u32 x0.core.pc)), (SV.arr IntKind.u32 12 (List.set (List.set (List.set (List.set (List.set x0.core.csr 0 (2 : Int)) 9 (IntKind.wrap IntKind.u32 alarm)) 5 x1.fst) 10 (IntKind.wrap IntKind.u32 (Int.fdiv alarm (4294967296 : Int)))) 6 x1.snd)), (SV.rd ETy.u8 x0.mem), (SV.v (Value.int IntKind.u64 x0.time)), (SV.rd ETy.u8 x0.out), (SV.v (Value.bool x0.halted))])))))))
 (Tree.fork
 (Tree.triv)
 (Tree.fork
 (Tree.triv)
 (Tree.triv))))))
 (Tree.triv))))))
 (Tree.fork
 (Tree.fork
 (Tree.triv)
 (Tree.fork
 (Tree.fork
 (Tree.triv)
 (Tree.fork
 (Tree.triv)
 (Tree.fork
 (Tree.triv)
 (Tree.fork
 (Tree.triv)
 (Tree.fork
 (Tree.fork
 (Tree.triv)
 (Tree.fork
 (Tree.triv)
 (Tree.fork
 (Tree.triv)
 (Tree.fork
 (Tree.triv)
 (Tree.fork
 (Tree.triv)
 (Tree.leaf (SV.agg [(SV.arr IntKind.u32 16 x0.core.regs), (SV.v (Value.int IntKind.u32 x0.core.pc)), (SV.arr IntKind.u32 12 (List.set (List.set (List.set (List.set (List.set x0.core.csr 0 (2 : Int)) 9 (IntKind.wrap IntKind.u32 alarm)) 6 x1.snd) 5 x1.fst) 10 (IntKind.wrap IntKind.u32 (Int.fdiv alarm (4294967296 : Int))))), (SV.rd ETy.u8 x0.mem), (SV.v (Value.int IntKind.u64 x0.time)), (SV.rd ETy.u8 x0.out), (SV.v (Value.bool x0.halted))])))))))
 (Tree.triv))))))
 (Tree.fork
 (Tree.triv)
 (Tree.fork
 (Tree.triv)
 (Tree.fork
 (Tree.fork
 (Tree.triv)
 (Tree.fork
 (Tree.fork
 (Tree.triv)
 (Tree.fork
 (Tree.triv)
 (Tree.fork
 (Tree.triv)
 (Tree.fork
 (Tree.triv)
 (Tree.fork
 (Tree.triv)
 (Tree.leaf (SV.agg [(SV.arr IntKind.u32 16 x0.core.regs), (SV.v (Value.int IntKind.u32 x0.core.pc)), (SV.arr IntKind.u32 12 (List.set (List.set (List.set (List.set (List.set x0.core.csr 0 (2 : Int)) 9 (IntKind.wrap IntKind.u32 alarm)) 6 x1.snd) 10 (IntKind.wrap IntKind.u32 (Int.fdiv alarm (4294967296 : Int)))) 5 x1.fst)), (SV.rd ETy.u8 x0.mem), (SV.v (Value.int IntKind.u64 x0.time)), (SV.rd ETy.u8 x0.out), (SV.v (Value.bool x0.halted))])))))))
 (Tree.fork
 (Tree.triv)
 (Tree.fork
 (Tree.triv)
 (Tree.fork
 (Tree.triv)
 (Tree.triv))))))
 (Tree.triv))))))
 (Tree.fork
 (Tree.triv)
 (Tree.fork
 (Tree.fork
 (Tree.triv)
 (Tree.fork
 (Tree.fork
 (Tree.triv)
 (Tree.fork
 (Tree.triv)
 (Tree.fork
 (Tree.fork
 (Tree.triv)
 (Tree.fork
 (Tree.triv)
 (Tree.fork
 (Tree.triv)
 (Tree.fork
 (Tree.triv)
 (Tree.fork
 (Tree.triv)
 (Tree.leaf (SV.agg [(SV.arr IntKind.u32 16 x0.core.regs), (SV.v (Value.int IntKind.u32 x0.core.pc)), (SV.arr IntKind.u32 12 (List.set (List.set (List.set (List.set (List.set x0.core.csr 0 (2 : Int)) 9 (IntKind.wrap IntKind.u32 alarm)) 10 (IntKind.wrap IntKind.u32 (Int.fdiv alarm (4294967296 : Int)))) 5 x1.fst) 6 x1.snd)), (SV.rd ETy.u8 x0.mem), (SV.v (Value.int IntKind.u64 x0.time)), (SV.rd ETy.u8 x0.out), (SV.v (Value.bool x0.halted))])))))))
 (Tree.fork
 (Tree.triv)
 (Tree.fork
 (Tree.triv)
 (Tree.triv))))))
 (Tree.fork
 (Tree.fork
 (Tree.triv)
 (Tree.fork
 (Tree.fork
 (Tree.triv)
 (Tree.fork
 (Tree.triv)
 (Tree.fork
 (Tree.triv)
 (Tree.fork
 (Tree.triv)
 (Tree.fork
 (Tree.triv)
 (Tree.leaf (SV.agg [(SV.arr IntKind.u32 16 x0.core.regs), (SV.v (Value.int IntKind.u32 x0.core.pc)), (SV.arr IntKind.u32 12 (List.set (List.set (List.set (List.set (List.set x0.core.csr 0 (2 : Int)) 9 (IntKind.wrap IntKind.u32 alarm)) 10 (IntKind.wrap IntKind.u32 (Int.fdiv alarm (4294967296 : Int)))) 6 x1.snd) 5 x1.fst)), (SV.rd ETy.u8 x0.mem), (SV.v (Value.int IntKind.u64 x0.time)), (SV.rd ETy.u8 x0.out), (SV.v (Value.bool x0.halted))])))))))
 (Tree.fork
 (Tree.triv)
 (Tree.fork
 (Tree.triv)
 (Tree.fork
 (Tree.triv)
 (Tree.triv))))))
 (Tree.fork
 (Tree.triv)
 (Tree.fork
 (Tree.triv)
 (Tree.triv))))))
 (Tree.triv))))))
 (Tree.fork
 (Tree.fork
 (Tree.triv)
 (Tree.fork
 (Tree.fork
 (Tree.triv)
 (Tree.fork
 (Tree.triv)
 (Tree.fork
 (Tree.fork
 (Tree.triv)
 (Tree.fork
 (Tree.triv)
 (Tree.fork
 (Tree.triv)
 (Tree.fork
 (Tree.fork
 (Tree.triv)
 (Tree.fork
 (Tree.triv)
 (Tree.fork
 (Tree.triv)
 (Tree.fork
 (Tree.triv)
 (Tree.fork
 (Tree.triv)
 (Tree.leaf (SV.agg [(SV.arr IntKind.u32 16 x0.core.regs), (SV.v (Value.int IntKind.u32 x0.core.pc)), (SV.arr IntKind.u32 12 (List.set (List.set (List.set (List.set (List.set x0.core.csr 0 (2 : Int)) 10 (IntKind.wrap IntKind.u32 (Int.fdiv alarm (4294967296 : Int)))) 5 x1.fst) 6 x1.snd) 9 (IntKind.wrap IntKind.u32 alarm))), (SV.rd ETy.u8 x0.mem), (SV.v (Value.int IntKind.u64 x0.time)), (SV.rd ETy.u8 x0.out), (SV.v (Value.bool x0.halted))])))))))
 (Tree.fork
 (Tree.triv)
 (Tree.triv))))))
 (Tree.fork
 (Tree.fork
 (Tree.triv)
 (Tree.fork
 (Tree.triv)
 (Tree.fork
 (Tree.fork
 (Tree.triv)
 (Tree.fork
 (Tree.triv)
 (Tree.fork
 (Tree.triv)
 (Tree.fork
 (Tree.triv)
 (Tree.fork
 (Tree.triv)
 (Tree.leaf (SV.agg [(SV.arr IntKind.u32 16 x0.core.regs), (SV.v (Value.int IntKind.u32 x0.core.pc)), (SV.arr IntKind.u32 12 (List.set (List.set (List.set (List.set (List.set x0.core.csr 0 (2 : Int)) 10 (IntKind.wrap IntKind.u32 (Int.fdiv alarm (4294967296 : Int)))) 5 x1.fst) 9 (IntKind.wrap IntKind.u32 alarm)) 6 x1.snd)), (SV.rd ETy.u8 x0.mem), (SV.v (Value.int IntKind.u64 x0.time)), (SV.rd ETy.u8 x0.out), (SV.v (Value.bool x0.halted))])))))))
 (Tree.fork
 (Tree.triv)
 (Tree.fork
 (Tree.triv)
 (Tree.triv))))))
 (Tree.fork
 (Tree.triv)
 (Tree.triv))))))
 (Tree.fork
 (Tree.fork
 (Tree.triv)
 (Tree.fork
 (Tree.fork
 (Tree.triv)
 (Tree.fork
 (Tree.triv)
 (Tree.fork
 (Tree.triv)
 (Tree.fork
 (Tree.fork
 (Tree.triv)
 (Tree.fork
 (Tree.triv)
 (Tree.fork
 (Tree.triv)
 (Tree.fork
 (Tree.triv)
 (Tree.fork
 (Tree.triv)
 (Tree.leaf (SV.agg [(SV.arr IntKind.u32 16 x0.core.regs), (SV.v (Value.int IntKind.u32 x0.core.pc)), (SV.arr IntKind.u32 12 (List.set (List.set (List.set (List.set (List.set x0.core.csr 0 (2 : Int)) 10 (IntKind.wrap IntKind.u32 (Int.fdiv alarm (4294967296 : Int)))) 6 x1.snd) 5 x1.fst) 9 (IntKind.wrap IntKind.u32 alarm))), (SV.rd ETy.u8 x0.mem), (SV.v (Value.int IntKind.u64 x0.time)), (SV.rd ETy.u8 x0.out), (SV.v (Value.bool x0.halted))])))))))
 (Tree.fork
 (Tree.triv)
 (Tree.triv))))))
 (Tree.fork
 (Tree.triv)
 (Tree.fork
 (Tree.fork
 (Tree.triv)
 (Tree.fork
 (Tree.fork
 (Tree.triv)
 (Tree.fork
 (Tree.triv)
 (Tree.fork
 (Tree.triv)
 (Tree.fork
 (Tree.triv)
 (Tree.fork
 (Tree.triv)
 (Tree.leaf (SV.agg [(SV.arr IntKind.u32 16 x0.core.regs), (SV.v (Value.int IntKind.u32 x0.core.pc)), (SV.arr IntKind.u32 12 (List.set (List.set (List.set (List.set (List.set x0.core.csr 0 (2 : Int)) 10 (IntKind.wrap IntKind.u32 (Int.fdiv alarm (4294967296 : Int)))) 6 x1.snd) 9 (IntKind.wrap IntKind.u32 alarm)) 5 x1.fst)), (SV.rd ETy.u8 x0.mem), (SV.v (Value.int IntKind.u64 x0.time)), (SV.rd ETy.u8 x0.out), (SV.v (Value.bool x0.halted))])))))))
 (Tree.fork
 (Tree.triv)
 (Tree.fork
 (Tree.triv)
 (Tree.fork
 (Tree.triv)
 (Tree.triv))))))
 (Tree.fork
 (Tree.triv)
 (Tree.triv))))))
 (Tree.fork
 (Tree.fork
 (Tree.triv)
 (Tree.fork
 (Tree.fork
 (Tree.triv)
 (Tree.fork
 (Tree.triv)
 (Tree.fork
 (Tree.fork
 (Tree.triv)
 (Tree.fork
 (Tree.triv)
 (Tree.fork
 (Tree.triv)
 (Tree.fork
 (Tree.triv)
 (Tree.fork
 (Tree.triv)
 (Tree.leaf (SV.agg [(SV.arr IntKind.u32 16 x0.core.regs), (SV.v (Value.int IntKind.u32 x0.core.pc)), (SV.arr IntKind.u32 12 (List.set (List.set (List.set (List.set (List.set x0.core.csr 0 (2 : Int)) 10 (IntKind.wrap IntKind.u32 (Int.fdiv alarm (4294967296 : Int)))) 9 (IntKind.wrap IntKind.u32 alarm)) 5 x1.fst) 6 x1.snd)), (SV.rd ETy.u8 x0.mem), (SV.v (Value.int IntKind.u64 x0.time)), (SV.rd ETy.u8 x0.out), (SV.v (Value.bool x0.halted))])))))))
 (Tree.fork
 (Tree.triv)
 (Tree.fork
 (Tree.triv)
 (Tree.triv))))))
 (Tree.fork
 (Tree.fork
 (Tree.triv)
 (Tree.fork
 (Tree.fork
 (Tree.triv)
 (Tree.fork
 (Tree.triv)
 (Tree.fork
 (Tree.triv)
 (Tree.fork
 (Tree.triv)
 (Tree.fork
 (Tree.triv)
 (Tree.leaf (SV.agg [(SV.arr IntKind.u32 16 x0.core.regs), (SV.v (Value.int IntKind.u32 x0.core.pc)), (SV.arr IntKind.u32 12 (List.set (List.set (List.set (List.set (List.set x0.core.csr 0 (2 : Int)) 10 (IntKind.wrap IntKind.u32 (Int.fdiv alarm (4294967296 : Int)))) 9 (IntKind.wrap IntKind.u32 alarm)) 6 x1.snd) 5 x1.fst)), (SV.rd ETy.u8 x0.mem), (SV.v (Value.int IntKind.u64 x0.time)), (SV.rd ETy.u8 x0.out), (SV.v (Value.bool x0.halted))])))))))
 (Tree.fork
 (Tree.triv)
 (Tree.fork
 (Tree.triv)
 (Tree.fork
 (Tree.triv)
 (Tree.triv))))))
 (Tree.fork
 (Tree.triv)
 (Tree.fork
 (Tree.triv)
 (Tree.triv))))))
 (Tree.fork
 (Tree.triv)
 (Tree.triv))))))
 (Tree.triv))))))
 (Tree.fork
 (Tree.fork
 (Tree.fork
 (Tree.triv)
 (Tree.fork
 (Tree.triv)
 (Tree.fork
 (Tree.fork
 (Tree.triv)
 (Tree.fork
 (Tree.triv)
 (Tree.fork
 (Tree.triv)
 (Tree.fork
 (Tree.fork
 (Tree.triv)
 (Tree.fork
 (Tree.triv)
 (Tree.fork
 (Tree.triv)
 (Tree.fork
 (Tree.triv)
 (Tree.fork
 (Tree.fork
 (Tree.triv)
 (Tree.fork
 (Tree.triv)
 (Tree.fork
 (Tree.triv)
 (Tree.fork
 (Tree.triv)
 (Tree.fork
 (Tree.triv)
 (Tree.leaf (SV.agg [(SV.arr IntKind.u32 16 x0.core.regs), (SV.v (Value.int IntKind.u32 x0.core.pc)), (SV.arr IntKind.u32 12 (List.set (List.set (List.set (List.set (List.set x0.core.csr 5 x1.fst) 0 (2 : Int)) 6 x1.snd) 9 (IntKind.wrap IntKind.u32 alarm)) 10 (IntKind.wrap IntKind.u32 (Int.fdiv alarm (4294967296 : Int))))), (SV.rd ETy.u8 x0.mem), (SV.v (Value.int IntKind.u64 x0.time)), (SV.rd ETy.u8 x0.out), (SV.v (Value.bool x0.halted))])))))))
 (Tree.triv))))))
 (Tree.fork
 (Tree.fork
 (Tree.triv)
 (Tree.fork
 (Tree.triv)
 (Tree.fork
 (Tree.triv)
 (Tree.fork
 (Tree.fork
 (Tree.triv)
 (Tree.fork
 (Tree.triv)
 (Tree.fork
 (Tree.triv)
 (Tree.fork
 (Tree.triv)
 (Tree.fork
 (Tree.triv)
 (Tree.leaf (SV.agg [(SV.arr IntKind.u32 16 x0.core.regs), (SV.v (Value.int IntKind.u32 x0.core.pc)), (SV.arr IntKind.u32 12 (List.set (List.set (List.set (List.set (List.set x0.core.csr 5 x1.fst) 0 (2 : Int)) 6 x1.snd) 10 (IntKind.wrap IntKind.u32 (Int.fdiv alarm (4294967296 : Int)))) 9 (IntKind.wrap IntKind.u32 alarm))), (SV.rd ETy.u8 x0.mem), (SV.v (Value.int IntKind.u64 x0.time)), (SV.rd ETy.u8 x0.out), (SV.v (Value.bool x0.halted))])))))))
 (Tree.fork
 (Tree.triv)
 (Tree.triv))))))
 (Tree.triv))))))
 (Tree.fork
 (Tree.fork
 (Tree.triv)
 (Tree.fork
 (Tree.triv)
 (Tree.fork
 (Tree.fork
 (Tree.triv)
 (Tree.fork
 (Tree.triv)
 (Tree.fork
 (Tree.triv)
 (Tree.fork
 (Tree.triv)
 (Tree.fork
 (Tree.fork
 (Tree.triv)
 (Tree.fork
 (Tree.triv)
 (Tree.fork
 (Tree.triv)
 (Tree.fork
 (Tree.triv)
 (Tree.fork
 (Tree.triv)
 (Tree.leaf (SV.agg [(SV.arr IntKind.u32 16 x0.core.regs), (SV.v (Value.int IntKind.u32 x0.core.pc)), (SV.arr IntKind.u32 12 (List.set (List.set (List.set (List.set (List.set x0.core.csr 5 x1.fst) 0 (2 : Int)) 9 (IntKind.wrap IntKind.u32 alarm)) 6 x1.snd) 10 (IntKind.wrap IntKind.u32 (Int.fdiv alarm (4294967296 : Int))))), (SV.rd ETy.u8 x0.mem), (SV.v (Value.int IntKind.u64 x0.time)), (SV.rd ETy.u8 x0.out), (SV.v (Value.bool x0.halted))])))))))
 (Tree.triv))))))
 (Tree.fork
 (Tree.triv)
 (Tree.fork
 (Tree.fork
 (Tree.triv)
 (Tree.fork
 (Tree.triv)
 (Tree.fork
 (Tree.fork
 (Tree.triv)
 (Tree.fork
 (Tree.triv)
 (Tree.fork
 (Tree.triv)
 (Tree.fork
 (Tree.triv)
 (Tree.fork
 (Tree.triv)
 (Tree.leaf (SV.agg [(SV.arr IntKind.u32 16 x0.core.regs), (SV.v (Value.int IntKind.u32 x0.core.pc)), (SV.arr IntKind.u32 12 (List.set (List.set (List.set (List.set (List.set x0.core.csr 5 x1.fst) 0 (2 : Int)) 9 (IntKind.wrap IntKind.u32 alarm)) 10 (IntKind.wrap IntKind.u32 (Int.fdiv alarm (4294967296 : Int)))) 6 x1.snd)), (SV.rd ETy.u8 x0.mem), (SV.v (Value.int IntKind.u64 x0.time)), (SV.rd ETy.u8 x0.out), (SV.v (Value.bool x0.halted))])))))))
 (Tree.fork
 (Tree.triv)
 (Tree.fork
 (Tree.triv)
 (Tree.triv))))))
 (Tree.triv))))))
 (Tree.fork
 (Tree.fork
 (Tree.triv)
 (Tree.fork
 (Tree.triv)
 (Tree.fork
 (Tree.fork
 (Tree.triv)
 (Tree.fork
 (Tree.triv)
 (Tree.fork
 (Tree.triv)
 (Tree.fork
 (Tree.fork
 (Tree.triv)
 (Tree.fork
 (Tree.triv)
 (Tree.fork
 (Tree.triv)
 (Tree.fork
 (Tree.triv)
 (Tree.fork
 (Tree.triv)
 (Tree.leaf (SV.agg [(SV.arr IntKind.u32 16 x0.core.regs), (SV.v (Value.int IntKind.u32 x0.core.pc)), (SV.arr IntKind.u32 12 (List.set (List.set (List.set (List.set (List.set x0.core.csr 5 x1.fst) 0 (2 : Int)) 10 (IntKind.wrap IntKind.u32 (Int.fdiv alarm (4294967296 : Int)))) 6 x1.snd) 9 (IntKind.wrap IntKind.u32 alarm))), (SV.rd ETy.u8 x0.mem), (SV.v (Value.int IntKind.u64 x0.time)), (SV.rd ETy.u8 x0.out), (SV.v (Value.bool x0.halted))])))))))
 (Tree.fork
 (Tree.triv)
 (Tree.triv))))))
 (Tree.fork
 (Tree.fork
 (Tree.triv)
 (Tree.fork
 (Tree.triv)
 (Tree.fork
 (Tree.fork
 (Tree.triv)
 (Tree.fork
 (Tree.triv)
 (Tree.fork
 (Tree.triv)
 (Tree.fork
 (Tree.triv)
 (Tree.fork
 (Tree.triv)
 (Tree.leaf (SV.agg [(SV.arr IntKind.u32 16 x0.core.regs), (SV.v (Value.int IntKind.u32 x0.core.pc)), (SV.arr IntKind.u32 12 (List.set (List.set (List.set (List.set (List.set x0.core.csr 5 x1.fst) 0 (2 : Int)) 10 (IntKind.wrap IntKind.u32 (Int.fdiv alarm (4294967296 : Int)))) 9 (IntKind.wrap IntKind.u32 alarm)) 6 x1.snd)), (SV.rd ETy.u8 x0.mem), (SV.v (Value.int IntKind.u64 x0.time)), (SV.rd ETy.u8 x0.out), (SV.v (Value.bool x0.halted))])))))))
 (Tree.fork
 (Tree.triv)
 (Tree.fork
 (Tree.triv)
 (Tree.triv))))))
 (Tree.fork
 (Tree.triv)
 (Tree.triv))))))
 (Tree.triv))))))
 (Tree.fork
 (Tree.triv)
 (Tree.fork
 (Tree.fork
 (Tree.fork
 (Tree.triv)
 (Tree.fork
 (Tree.triv)
 (Tree.fork
 (Tree.triv)
 (Tree.fork
 (Tree.fork
 (Tree.triv)
 (Tree.fork
 (Tree.triv)
 (Tree.fork
 (Tree.triv)
 (Tree.fork
 (Tree.triv)
 (Tree.fork
 (Tree.fork
 (Tree.triv)
 (Tree.fork
 (Tree.triv)
 (Tree.fork
 (Tree.triv)
 (Tree.fork
 (Tree.triv)
 (Tree.fork
 (Tree.triv)
 (Tree.leaf (SV.agg [(SV.arr IntKind.u32 16 x0.core.regs), (SV.v (Value.int IntKind.u32 x0.core.pc)), (SV.arr IntKind.u32 12 (List.set (List.set (List.set (List.set (List.set x0.core.csr 5 x1.fst) 6 x1.snd) 0 (2 : Int)) 9 (IntKind.wrap IntKind.u32 alarm)) 10 (IntKind.wrap IntKind.u32 (Int.fdiv alarm (4294967296 : Int))))), (SV.rd ETy.u8 x0.mem), (SV.v (Value.int IntKind.u64 x0.time)), (SV.rd ETy.u8 x0.out), (SV.v (Value.bool x0.halted))])))))))
 (Tree.triv))))))
 (Tree.fork
 (Tree.fork
 (Tree.triv)
 (Tree.fork
 (Tree.triv)
 (Tree.fork
 (Tree.triv)
 (Tree.fork
 (Tree.fork
 (Tree.triv)
 (Tree.fork
 (Tree.triv)
 (Tree.fork
 (Tree.triv)
 (Tree.fork
 (Tree.triv)
 (Tree.fork
 (Tree.triv)
 (Tree.leaf (SV.agg [(SV.arr IntKind.u32 16 x0.core.regs), (SV.v (Value.int IntKind.u32 x0.core.pc)), (SV.arr IntKind.u32 12 (List.set (List.set (List.set (List.set (List.set x0.core.csr 5 x1.fst) 6 x1.snd) 0 (2 : Int)) 10 (IntKind.wrap IntKind.u32 (Int.fdiv alarm (4294967296 : Int)))) 9 (IntKind.wrap IntKind.u32 alarm))), (SV.rd ETy.u8 x0.mem), (SV.v (Value.int IntKind.u64 x0.time)), (SV.rd ETy.u8 x0.out), (SV.v (Value.bool x0.halted))])))))))
 (Tree.fork
 (Tree.triv)
 (Tree.triv))))))
 (Tree.triv))))))
 (Tree.fork
 (Tree.triv)
 (Tree.fork
 (Tree.triv)
 (Tree.fork
 (Tree.fork
 (Tree.fork
 (Tree.triv)
 (Tree.fork
 (Tree.triv)
 (Tree.fork
 (Tree.triv)
 (Tree.fork
 (Tree.triv)
 (Tree.fork
 (Tree.fork
 (Tree.triv)
 (Tree.fork
 (Tree.triv)
 (Tree.fork
 (Tree.triv)
 (Tree.fork
 (Tree.triv)
 (Tree.fork
 (Tree.triv)
 (Tree.leaf (SV.agg [(SV.arr IntKind.u32 16 x0.core.regs), (SV.v (Value.int IntKind.u32 x0.core.pc)), (SV.arr IntKind.u32 12 (List.set (List.set (List.set (List.set (List.set x0.core.csr 5 x1.fst) 6 x1.snd) 9 (IntKind.wrap IntKind.u32 alarm)) 0 (2 : Int)) 10 (IntKind.wrap IntKind.u32 (Int.fdiv alarm (4294967296 : Int))))), (SV.rd ETy.u8 x0.mem), (SV.v (Value.int IntKind.u64 x0.time)), (SV.rd ETy.u8 x0.out), (SV.v (Value.bool x0.halted))])))))))
 (Tree.triv))))))
 (Tree.fork
 (Tree.triv)
 (Tree.fork
 (Tree.triv)
 (Tree.fork
 (Tree.triv)
 (Tree.fork
 (Tree.fork
 (Tree.fork
 (Tree.triv)
 (Tree.fork
 (Tree.triv)
 (Tree.fork
 (Tree.triv)
 (Tree.fork
 (Tree.triv)
 (Tree.fork
 (Tree.triv)
 (Tree.leaf (SV.agg [(SV.arr IntKind.u32 16 x0.core.regs), (SV.v (Value.int IntKind.u32 x0.core.pc)), (SV.arr IntKind.u32 12 (List.set (List.set (List.set (List.set (List.set x0.core.csr 5 x1.fst) 6 x1.snd) 9 (IntKind.wrap IntKind.u32 alarm)) 10 (IntKind.wrap IntKind.u32 (Int.fdiv alarm (4294967296 : Int)))) 0 (2 : Int))), (SV.rd ETy.u8 x0.mem), (SV.v (Value.int IntKind.u64 x0.time)), (SV.rd ETy.u8 x0.out), (SV.v (Value.bool x0.halted))])))))))
 (Tree.fork
 (Tree.triv)
 (Tree.fork
 (Tree.triv)
 (Tree.fork
 (Tree.triv)
 (Tree.fork
 (Tree.triv)
 (Tree.triv))))))
 (Tree.triv))))))
 (Tree.fork
 (Tree.fork
 (Tree.fork
 (Tree.triv)
 (Tree.fork
 (Tree.triv)
 (Tree.fork
 (Tree.triv)
 (Tree.fork
 (Tree.fork
 (Tree.triv)
 (Tree.fork
 (Tree.triv)
 (Tree.fork
 (Tree.triv)
 (Tree.fork
 (Tree.triv)
 (Tree.fork
 (Tree.triv)
 (Tree.leaf (SV.agg [(SV.arr IntKind.u32 16 x0.core.regs), (SV.v (Value.int IntKind.u32 x0.core.pc)), (SV.arr IntKind.u32 12 (List.set (List.set (List.set (List.set (List.set x0.core.csr 5 x1.fst) 6 x1.snd) 10 (IntKind.wrap IntKind.u32 (Int.fdiv alarm (4294967296 : Int)))) 0 (2 : Int)) 9 (IntKind.wrap IntKind.u32 alarm))), (SV.rd ETy.u8 x0.mem), (SV.v (Value.int IntKind.u64 x0.time)), (SV.rd ETy.u8 x0.out), (SV.v (Value.bool x0.halted))])))))))
 (Tree.fork
 (Tree.triv)
 (Tree.triv))))))
 (Tree.fork
 (Tree.triv)
 (Tree.fork
 (Tree.triv)
 (Tree.fork
 (Tree.fork
 (Tree.fork
 (Tree.triv)
 (Tree.fork
 (Tree.triv)
 (Tree.fork
 (Tree.triv)
 (Tree.fork
 (Tree.triv)
 (Tree.fork
 (Tree.triv)
 (Tree.leaf (SV.agg [(SV.arr IntKind.u32 16 x0.core.regs), (SV.v (Value.int IntKind.u32 x0.core.pc)), (SV.arr IntKind.u32 12 (List.set (List.set (List.set (List.set (List.set x0.core.csr 5 x1.fst) 6 x1.snd) 10 (IntKind.wrap IntKind.u32 (Int.fdiv alarm (4294967296 : Int)))) 9 (IntKind.wrap IntKind.u32 alarm)) 0 (2 : Int))), (SV.rd ETy.u8 x0.mem), (SV.v (Value.int IntKind.u64 x0.time)), (SV.rd ETy.u8 x0.out), (SV.v (Value.bool x0.halted))])))))))
 (Tree.fork
 (Tree.triv)
 (Tree.fork
 (Tree.triv)
 (Tree.fork
 (Tree.triv)
 (Tree.fork
 (Tree.triv)
 (Tree.triv))))))
 (Tree.fork
 (Tree.triv)
 (Tree.triv))))))
 (Tree.triv))))))
 (Tree.fork
 (Tree.fork
 (Tree.fork
 (Tree.triv)
 (Tree.fork
 (Tree.triv)
 (Tree.fork
 (Tree.fork
 (Tree.triv)
 (Tree.fork
 (Tree.triv)
 (Tree.fork
 (Tree.triv)
 (Tree.fork
 (Tree.triv)
 (Tree.fork
 (Tree.fork
 (Tree.triv)
 (Tree.fork
 (Tree.triv)
 (Tree.fork
 (Tree.triv)
 (Tree.fork
 (Tree.triv)
 (Tree.fork
 (Tree.triv)
 (Tree.leaf (SV.agg [(SV.arr IntKind.u32 16 x0.core.regs), (SV.v (Value.int IntKind.u32 x0.core.pc)), (SV.arr IntKind.u32 12 (List.set (List.set (List.set (List.set (List.set x0.core.csr 5 x1.fst) 9 (IntKind.wrap IntKind.u32 alarm)) 0 (2 : Int)) 6 x1.snd) 10 (IntKind.wrap IntKind.u32 (Int.fdiv alarm (4294967296 : Int))))), (SV.rd ETy.u8 x0.mem), (SV.v (Value.int IntKind.u64 x0.time)), (SV.rd ETy.u8 x0.out), (SV.v (Value.bool x0.halted))])))))))
 (Tree.triv))))))
 (Tree.fork
 (Tree.triv)
 (Tree.fork
 (Tree.fork
 (Tree.triv)
 (Tree.fork
 (Tree.triv)
 (Tree.fork
 (Tree.fork
 (Tree.triv)
 (Tree.fork
 (Tree.triv)
 (Tree.fork
 (Tree.triv)
 (Tree.fork
 (Tree.triv)
 (Tree.fork
 (Tree.triv)
 (Tree.leaf (SV.agg [(SV.arr IntKind.u32 16 x0.core.regs), (SV.v (Value.int IntKind.u32 x0.core.pc)), (SV.arr IntKind.u32 12 (List.set (List.set (List.set (List.set (List.set x0.core.csr 5 x1.fst) 9 (IntKind.wrap IntKind.u32 alarm)) 0 (2 : Int)) 10 (IntKind.wrap IntKind.u32 (Int.fdiv alarm (4294967296 : Int)))) 6 x1.snd)), (SV.rd ETy.u8 x0.mem), (SV.v (Value.int IntKind.u64 x0.time)), (SV.rd ETy.u8 x0.out), (SV.v (Value.bool x0.halted))])))))))
 (Tree.fork
 (Tree.triv)
 (Tree.fork
 (Tree.triv)
 (Tree.triv))))))
 (Tree.triv))))))
 (Tree.fork
 (Tree.triv)
 (Tree.fork
 (Tree.fork
 (Tree.fork
 (Tree.triv)
 (Tree.fork
 (Tree.triv)
 (Tree.fork
 (Tree.triv)
 (Tree.fork
 (Tree.triv)
 (Tree.fork
 (Tree.fork
 (Tree.triv)
 (Tree.fork
 (Tree.triv)
 (Tree.fork
 (Tree.triv)
 (Tree.fork
 (Tree.triv)
 (Tree.fork
 (Tree.triv)
 (Tree.leaf (SV.agg [(SV.arr IntKind.u32 16 x0.core.regs), (SV.v (Value.int IntKind.u32 x0.core.pc)), (SV.arr IntKind.u32 12 (List.set (List.set (List.set (List.set (List.set x0.core.csr 5 x1.fst) 9 (IntKind.wrap IntKind.u32 alarm)) 6 x1.snd) 0 (2 : Int)) 10 (IntKind.wrap IntKind.u32 (Int.fdiv alarm (4294967296 : Int))))), (SV.rd ETy.u8 x0.mem), (SV.v (Value.int IntKind.u64 x0.time)), (SV.rd ETy.u8 x0.out), (SV.v (Value.bool x0.halted))])))))))
 (Tree.triv))))))
 (Tree.fork
 (Tree.triv)
 (Tree.fork
 (Tree.triv)
 (Tree.fork
 (Tree.triv)
 (Tree.fork
 (Tree.fork
 (Tree.fork
 (Tree.triv)
 (Tree.fork
 (Tree.triv)
 (Tree.fork
 (Tree.triv)
 (Tree.fork
 (Tree.triv)
 (Tree.fork
 (Tree.triv)
 (Tree.leaf (SV.agg [(SV.arr IntKind.u32 16 x0.core.regs), (SV.v (Value.int IntKind.u32 x0.core.pc)), (SV.arr IntKind.u32 12 (List.set (List.set (List.set (List.set (List.set x0.core.csr 5 x1.fst) 9 (IntKind.wrap IntKind.u32 alarm)) 6 x1.snd) 10 (IntKind.wrap IntKind.u32 (Int.fdiv alarm (4294967296 : Int)))) 0 (2 : Int))), (SV.rd ETy.u8 x0.mem), (SV.v (Value.int IntKind.u64 x0.time)), (SV.rd ETy.u8 x0.out), (SV.v (Value.bool x0.halted))])))))))
 (Tree.fork
 (Tree.triv)
 (Tree.fork
 (Tree.triv)
 (Tree.fork
 (Tree.triv)
 (Tree.fork
 (Tree.triv)
 (Tree.triv))))))
 (Tree.triv))))))
 (Tree.fork
 (Tree.triv)
 (Tree.fork
 (Tree.fork
 (Tree.fork
 (Tree.triv)
 (Tree.fork
 (Tree.triv)
 (Tree.fork
 (Tree.fork
 (Tree.triv)
 (Tree.fork
 (Tree.triv)
 (Tree.fork
 (Tree.triv)
 (Tree.fork
 (Tree.triv)
 (Tree.fork
 (Tree.triv)
 (Tree.leaf (SV.agg [(SV.arr IntKind.u32 16 x0.core.regs), (SV.v (Value.int IntKind.u32 x0.core.pc)), (SV.arr IntKind.u32 12 (List.set (List.set (List.set (List.set (List.set x0.core.csr 5 x1.fst) 9 (IntKind.wrap IntKind.u32 alarm)) 10 (IntKind.wrap IntKind.u32 (Int.fdiv alarm (4294967296 : Int)))) 0 (2 : Int)) 6 x1.snd)), (SV.rd ETy.u8 x0.mem), (SV.v (Value.int IntKind.u64 x0.time)), (SV.rd ETy.u8 x0.out), (SV.v (Value.bool x0.halted))])))))))
 (Tree.fork
 (Tree.triv)
 (Tree.fork
 (Tree.triv)
 (Tree.triv))))))
 (Tree.fork
 (Tree.triv)
 (Tree.fork
 (Tree.fork
 (Tree.fork
 (Tree.triv)
 (Tree.fork
 (Tree.triv)
 (Tree.fork
 (Tree.triv)
 (Tree.fork
 (Tree.triv)
 (Tree.fork
 (Tree.triv)
 (Tree.leaf (SV.agg [(SV.arr IntKind.u32 16 x0.core.regs), (SV.v (Value.int IntKind.u32 x0.core.pc)), (SV.arr IntKind.u32 12 (List.set (List.set (List.set (List.set (List.set x0.core.csr 5 x1.fst) 9 (IntKind.wrap IntKind.u32 alarm)) 10 (IntKind.wrap IntKind.u32 (Int.fdiv alarm (4294967296 : Int)))) 6 x1.snd) 0 (2 : Int))), (SV.rd ETy.u8 x0.mem), (SV.v (Value.int IntKind.u64 x0.time)), (SV.rd ETy.u8 x0.out), (SV.v (Value.bool x0.halted))])))))))
 (Tree.fork
 (Tree.triv)
 (Tree.fork
 (Tree.triv)
 (Tree.fork
 (Tree.triv)
 (Tree.fork
 (Tree.triv)
 (Tree.triv))))))
 (Tree.fork
 (Tree.triv)
 (Tree.fork
 (Tree.triv)
 (Tree.triv))))))
 (Tree.triv))))))
 (Tree.fork
 (Tree.fork
 (Tree.fork
 (Tree.triv)
 (Tree.fork
 (Tree.triv)
 (Tree.fork
 (Tree.fork
 (Tree.triv)
 (Tree.fork
 (Tree.triv)
 (Tree.fork
 (Tree.triv)
 (Tree.fork
 (Tree.fork
 (Tree.triv)
 (Tree.fork
 (Tree.triv)
 (Tree.fork
 (Tree.triv)
 (Tree.fork
 (Tree.triv)
 (Tree.fork
 (Tree.triv)
 (Tree.leaf (SV.agg [(SV.arr IntKind.u32 16 x0.core.regs), (SV.v (Value.int IntKind.u32 x0.core.pc)), (SV.arr IntKind.u32 12 (List.set (List.set (List.set (List.set (List.set x0.core.csr 5 x1.fst) 10 (IntKind.wrap IntKind.u32 (Int.fdiv alarm (4294967296 : Int)))) 0 (2 : Int)) 6 x1.snd) 9 (IntKind.wrap IntKind.u32 alarm))), (SV.rd ETy.u8 x0.mem), (SV.v (Value.int IntKind.u64 x0.time)), (SV.rd ETy.u8 x0.out), (SV.v (Value.bool x0.halted))])))))))
 (Tree.fork
 (Tree.triv)
 (Tree.triv))))))
 (Tree.fork
 (Tree.fork
 (Tree.triv)
 (Tree.fork
 (Tree.triv)
 (Tree.fork
 (Tree.fork
 (Tree.triv)
 (Tree.fork
 (Tree.triv)
 (Tree.fork
 (Tree.triv)
 (Tree.fork
 (Tree.triv)
 (Tree.fork
 (Tree.triv)
 (Tree.leaf (SV.agg [(SV.arr IntKind.u32 16 x0.core.regs), (SV.v (Value.int IntKind.u32 x0.core.pc)), (SV.arr IntKind.u32 12 (List.set (List.set (List.set (List.set (List.set x0.core.csr 5 x1.fst) 10 (IntKind.wrap IntKind.u32 (Int.fdiv alarm (4294967296 : Int)))) 0 (2 : Int)) 9 (IntKind.wrap IntKind.u32 alarm)) 6 x1.snd)), (SV.rd ETy.u8 x0.mem), (SV.v (Value.int IntKind.u64 x0.time)), (SV.rd ETy.u8 x0.out), (SV.v (Value.bool x0.halted))])))))))
 (Tree.fork
 (Tree.triv)
 (Tree.fork
 (Tree.triv)
 (Tree.triv))))))
 (Tree.fork
 (Tree.triv)
 (Tree.triv))))))
 (Tree.fork
 (Tree.triv)
 (Tree.fork
 (Tree.fork
 (Tree.fork
 (Tree.triv)
 (Tree.fork
 (Tree.triv)
 (Tree.fork
 (Tree.triv)
 (Tree.fork
 (Tree.fork
 (Tree.triv)
 (Tree.fork
 (Tree.triv)
 (Tree.fork
 (Tree.triv)
 (Tree.fork
 (Tree.triv)
 (Tree.fork
 (Tree.triv)
 (Tree.leaf (SV.agg [(SV.arr IntKind.u32 16 x0.core.regs), (SV.v (Value.int IntKind.u32 x0.core.pc)), (SV.arr IntKind.u32 12 (List.set (List.set (List.set (List.set (List.set x0.core.csr 5 x1.fst) 10 (IntKind.wrap IntKind.u32 (Int.fdiv alarm (4294967296 : Int)))) 6 x1.snd) 0 (2 : Int)) 9 (IntKind.wrap IntKind.u32 alarm))), (SV.rd ETy.u8 x0.mem), (SV.v (Value.int IntKind.u64 x0.time)), (SV.rd ETy.u8 x0.out), (SV.v (Value.bool x0.halted))])))))))
 (Tree.fork
 (Tree.triv)
 (Tree.triv))))))
 (Tree.fork
 (Tree.triv)
 (Tree.fork
 (Tree.triv)
 (Tree.fork
 (Tree.fork
 (Tree.fork
 (Tree.triv)
 (Tree.fork
 (Tree.triv)
 (Tree.fork
 (Tree.triv)
 (Tree.fork
 (Tree.triv)
 (Tree.fork
 (Tree.triv)
 (Tree.leaf (SV.agg [(SV.arr IntKind.u32 16 x0.core.regs), (SV.v (Value.int IntKind.u32 x0.core.pc)), (SV.arr IntKind.u32 12 (List.set (List.set (List.set (List.set (List.set x0.core.csr 5 x1.fst) 10 (IntKind.wrap IntKind.u32 (Int.fdiv alarm (4294967296 : Int)))) 6 x1.snd) 9 (IntKind.wrap IntKind.u32 alarm)) 0 (2 : Int))), (SV.rd ETy.u8 x0.mem), (SV.v (Value.int IntKind.u64 x0.time)), (SV.rd ETy.u8 x0.out), (SV.v (Value.bool x0.halted))])))))))
 (Tree.fork
 (Tree.triv)
 (Tree.fork
 (Tree.triv)
 (Tree.fork
 (Tree.triv)
 (Tree.fork
 (Tree.triv)
 (Tree.triv))))))
 (Tree.fork
 (Tree.triv)
 (Tree.triv))))))
 (Tree.fork
 (Tree.fork
 (Tree.fork
 (Tree.triv)
 (Tree.fork
 (Tree.triv)
 (Tree.fork
 (Tree.fork
 (Tree.triv)
 (Tree.fork
 (Tree.triv)
 (Tree.fork
 (Tree.triv)
 (Tree.fork
 (Tree.triv)
 (Tree.fork
 (Tree.triv)
 (Tree.leaf (SV.agg [(SV.arr IntKind.u32 16 x0.core.regs), (SV.v (Value.int IntKind.u32 x0.core.pc)), (SV.arr IntKind.u32 12 (List.set (List.set (List.set (List.set (List.set x0.core.csr 5 x1.fst) 10 (IntKind.wrap IntKind.u32 (Int.fdiv alarm (4294967296 : Int)))) 9 (IntKind.wrap IntKind.u32 alarm)) 0 (2 : Int)) 6 x1.snd)), (SV.rd ETy.u8 x0.mem), (SV.v (Value.int IntKind.u64 x0.time)), (SV.rd ETy.u8 x0.out), (SV.v (Value.bool x0.halted))])))))))
 (Tree.fork
 (Tree.triv)
 (Tree.fork
 (Tree.triv)
 (Tree.triv))))))
 (Tree.fork
 (Tree.triv)
 (Tree.fork
 (Tree.fork
 (Tree.fork
 (Tree.triv)
 (Tree.fork
 (Tree.triv)
 (Tree.fork
 (Tree.triv)
 (Tree.fork
 (Tree.triv)
 (Tree.fork
 (Tree.triv)
 (Tree.leaf (SV.agg [(SV.arr IntKind.u32 16 x0.core.regs), (SV.v (Value.int IntKind.u32 x0.core.pc)), (SV.arr IntKind.u32 12 (List.set (List.set (List.set (List.set (List.set x0.core.csr 5 x1.fst) 10 (IntKind.wrap IntKind.u32 (Int.fdiv alarm (4294967296 : Int)))) 9 (IntKind.wrap IntKind.u32 alarm)) 6 x1.snd) 0 (2 : Int))), (SV.rd ETy.u8 x0.mem), (SV.v (Value.int IntKind.u64 x0.time)), (SV.rd ETy.u8 x0.out), (SV.v (Value.bool x0.halted))])))))))
 (Tree.fork
 (Tree.triv)
 (Tree.fork
 (Tree.triv)
 (Tree.fork
 (Tree.triv)
 (Tree.fork
 (Tree.triv)
 (Tree.triv))))))
 (Tree.fork
 (Tree.triv)
 (Tree.fork
 (Tree.triv)
 (Tree.triv))))))
 (Tree.fork
 (Tree.triv)
 (Tree.triv))))))
 (Tree.triv))))))
 (Tree.fork
 (Tree.fork
 (Tree.fork
 (Tree.triv)
 (Tree.fork
 (Tree.fork
 (Tree.triv)
 (Tree.fork
 (Tree.triv)
 (Tree.fork
 (Tree.triv)
 (Tree.fork
 (Tree.fork
 (Tree.triv)
 (Tree.fork
 (Tree.triv)
 (Tree.fork
 (Tree.triv)
 (Tree.fork
 (Tree.triv)
 (Tree.fork
 (Tree.fork
 (Tree.triv)
 (Tree.fork
 (Tree.triv)
 (Tree.fork
 (Tree.triv)
 (Tree.fork
 (Tree.triv)
 (Tree.fork
 (Tree.triv)
 (Tree.leaf (SV.agg [(SV.arr IntKind.u32 16 x0.core.regs), (SV.v (Value.int IntKind.u32 x0.core.pc)), (SV.arr IntKind.u32 12 (List.set (List.set (List.set (List.set (List.set x0.core.csr 6 x1.snd) 0 (2 : Int)) 5 x1.fst) 9 (IntKind.wrap IntKind.u32 alarm)) 10 (IntKind.wrap IntKind.u32 (Int.fdiv alarm (4294967296 : Int))))), (SV.rd ETy.u8 x0.mem), (SV.v (Value.int IntKind.u64 x0.time)), (SV.rd ETy.u8 x0.out), (SV.v (Value.bool x0.halted))])))))))
 (Tree.triv))))))
 (Tree.fork
 (Tree.fork
 (Tree.triv)
 (Tree.fork
 (Tree.triv)
 (Tree.fork
 (Tree.triv)
 (Tree.fork
 (Tree.fork
 (Tree.triv)
 (Tree.fork
 (Tree.triv)
 (Tree.fork
 (Tree.triv)
 (Tree.fork
 (Tree.triv)
 (Tree.fork
 (Tree.triv)
 (Tree.leaf (SV.agg [(SV.arr IntKind.u32 16 x0.core.regs), (SV.v (Value.int IntKind.u32 x0.core.pc)), (SV.arr IntKind.u32 12 (List.set (List.set (List.set (List.set (List.set x0.core.csr 6 x1.snd) 0 (2 : Int)) 5 x1.fst) 10 (IntKind.wrap IntKind.u32 (Int.fdiv alarm (4294967296 : Int)))) 9 (IntKind.wrap IntKind.u32 alarm))), (SV.rd ETy.u8 x0.mem), (SV.v (Value.int IntKind.u64 x0.time)), (SV.rd ETy.u8 x0.out), (SV.v (Value.bool x0.halted))])))))))
 (Tree.fork
 (Tree.triv)
 (Tree.triv))))))
 (Tree.triv))))))
 (Tree.fork
 (Tree.triv)
 (Tree.fork
 (Tree.fork
 (Tree.triv)
 (Tree.fork
 (Tree.fork
 (Tree.triv)
 (Tree.fork
 (Tree.triv)
 (Tree.fork
 (Tree.triv)
 (Tree.fork
 (Tree.triv)
 (Tree.fork
 (Tree.fork
 (Tree.triv)
 (Tree.fork
 (Tree.triv)
 (Tree.fork
 (Tree.triv)
 (Tree.fork
 (Tree.triv)
 (Tree.fork
 (Tree.triv)
 (Tree.leaf (SV.agg [(SV.arr IntKind.u32 16 x0.core.regs), (SV.v (Value.int IntKind.u32 x0.core.pc)), (SV.arr IntKind.u32 12 (List.set (List.set (List.set (List.set (List.set x0.core.csr 6 x1.snd) 0 (2 : Int)) 9 (IntKind.wrap IntKind.u32 alarm)) 5 x1.fst) 10 (IntKind.wrap IntKind.u32 (Int.fdiv alarm (4294967296 : Int))))), (SV.rd ETy.u8 x0.mem), (SV.v (Value.int IntKind.u64 x0.time)), (SV.rd ETy.u8 x0.out), (SV.v (Value.bool x0.halted))])))))))
 (Tree.triv))))))
 (Tree.fork
 (Tree.triv)
 (Tree.fork
 (Tree.triv)
 (Tree.fork
 (Tree.fork
 (Tree.triv)
 (Tree.fork
 (Tree.fork
 (Tree.triv)
 (Tree.fork
 (Tree.triv)
 (Tree.fork
 (Tree.triv)
 (Tree.fork
 (Tree.triv)
 (Tree.fork
 (Tree.triv)
 (Tree.leaf (SV.agg [(SV.arr IntKind.u32 16 x0.core.regs), (SV.v (Value.int IntKind.u32 x0.core.pc)), (SV.arr IntKind.u32 12 (List.set (List.set (List.set (List.set (List.set x0.core.csr 6 x1.snd) 0 (2 : Int)) 9 (IntKind.wrap IntKind.u32 alarm)) 10 (IntKind.wrap IntKind.u32 (Int.fdiv alarm (4294967296 : Int)))) 5 x1.fst)), (SV.rd ETy.u8 x0.mem), (SV.v (Value.int IntKind.u64 x0.time)), (SV.rd ETy.u8 x0.out), (SV.v (Value.bool x0.halted))])))))))
 (Tree.fork
 (Tree.triv)
 (Tree.fork
 (Tree.triv)
 (Tree.fork
 (Tree.triv)
 (Tree.triv))))))
 (Tree.triv))))))
 (Tree.fork
 (Tree.fork
 (Tree.triv)
 (Tree.fork
 (Tree.fork
 (Tree.triv)
 (Tree.fork
 (Tree.triv)
 (Tree.fork
 (Tree.triv)
 (Tree.fork
 (Tree.fork
 (Tree.triv)
 (Tree.fork
 (Tree.triv)
 (Tree.fork
 (Tree.triv)
 (Tree.fork
 (Tree.triv)
 (Tree.fork
 (Tree.triv)
 (Tree.leaf (SV.agg [(SV.arr IntKind.u32 16 x0.core.regs), (SV.v (Value.int IntKind.u32 x0.core.pc)), (SV.arr IntKind.u32 12 (List.set (List.set (List.set (List.set (List.set x0.core.csr 6 x1.snd) 0 (2 : Int)) 10 (IntKind.wrap IntKind.u32 (Int.fdiv alarm (4294967296 : Int)))) 5 x1.fst) 9 (IntKind.wrap IntKind.u32 alarm))), (SV.rd ETy.u8 x0.mem), (SV.v (Value.int IntKind.u64 x0.time)), (SV.rd ETy.u8 x0.out), (SV.v (Value.bool x0.halted))])))))))
 (Tree.fork
 (Tree.triv)
 (Tree.triv))))))
 (Tree.fork
 (Tree.triv)
 (Tree.fork
 (Tree.fork
 (Tree.triv)
 (Tree.fork
 (Tree.fork
 (Tree.triv)
 (Tree.fork
 (Tree.triv)
 (Tree.fork
 (Tree.triv)
 (Tree.fork
 (Tree.triv)
 (Tree.fork
 (Tree.triv)
 (Tree.leaf (SV.agg [(SV.arr IntKind.u32 16 x0.core.regs), (SV.v (Value.int IntKind.u32 x0.core.pc)), (SV.arr IntKind.u32 12 (List.set (List.set (List.set (List.set (List.set x0.core.csr 6 x1.snd) 0 (2 : Int)) 10 (IntKind.wrap IntKind.u32 (Int.fdiv alarm (4294967296 : Int)))) 9 (IntKind.wrap IntKind.u32 alarm)) 5 x1.fst)), (SV.rd ETy.u8 x0.mem), (SV.v (Value.int IntKind.u64 x0.time)), (SV.rd ETy.u8 x0.out), (SV.v (Value.bool x0.halted))])))))))
 (Tree.fork
 (Tree.triv)
 (Tree.fork
 (Tree.triv)
 (Tree.fork
 (Tree.triv)
 (Tree.triv))))))
 (Tree.fork
 (Tree.triv)
 (Tree.triv))))))
 (Tree.triv))))))
 (Tree.fork
 (Tree.fork
 (Tree.fork
 (Tree.triv)
 (Tree.fork
 (Tree.triv)
 (Tree.fork
 (Tree.triv)
 (Tree.fork
 (Tree.fork
 (Tree.triv)
 (Tree.fork
 (Tree.triv)
 (Tree.fork
 (Tree.triv)
 (Tree.fork
 (Tree.triv)
 (Tree.fork
 (Tree.fork
 (Tree.triv)
 (Tree.fork
 (Tree.triv)
 (Tree.fork
 (Tree.triv)
 (Tree.fork
 (Tree.triv)
 (Tree.fork
 (Tree.triv)
 (Tree.leaf (SV.agg [(SV.arr IntKind.u32 16 x0.core.regs), (SV.v (Value.int IntKind.u32 x0.core.pc)), (SV.arr IntKind.u32 12 (List.set (List.set (List.set (List.set (List.set x0.core.csr 6 x1.snd) 5 x1.fst) 0 (2 : Int)) 9 (IntKind.wrap IntKind.u32 alarm)) 10 (IntKind.wrap IntKind.u32 (Int.fdiv alarm (4294967296 : Int))))), (SV.rd ETy.u8 x0.mem), (SV.v (Value.int IntKind.u64 x0.time)), (SV.rd ETy.u8 x0.out), (SV.v (Value.bool x0.halted))])))))))
 (Tree.triv))))))
 (Tree.fork
 (Tree.fork
 (Tree.triv)
 (Tree.fork
 (Tree.triv)
 (Tree.fork
 (Tree.triv)
 (Tree.fork
 (Tree.fork
 (Tree.triv)
 (Tree.fork
 (Tree.triv)
 (Tree.fork
 (Tree.triv)
 (Tree.fork
 (Tree.triv)
 (Tree.fork
 (Tree.triv)
 (Tree.leaf (SV.agg [(SV.arr IntKind.u32 16 x0.core.regs), (SV.v (Value.int IntKind.u32 x0.core.pc)), (SV.arr IntKind.u32 12 (List.set (List.set (List.set (List.set (List.set x0.core.csr 6 x1.snd) 5 x1.fst) 0 (2 : Int)) 10 (IntKind.wrap IntKind.u32 (Int.fdiv alarm (4294967296 : Int)))) 9 (IntKind.wrap IntKind.u32 alarm))), (SV.rd ETy.u8 x0.mem), (SV.v (Value.int IntKind.u64 x0.time)), (SV.rd ETy.u8 x0.out), (SV.v (Value.bool x0.halted))])))))))
 (Tree.fork
 (Tree.triv)
 (Tree.triv))))))
 (Tree.triv))))))
 (Tree.fork
 (Tree.triv)
 (Tree.fork
 (Tree.triv)
 (Tree.fork
 (Tree.fork
 (Tree.fork
 (Tree.triv)
 (Tree.fork
 (Tree.triv)
 (Tree.fork
 (Tree.triv)
 (Tree.fork
 (Tree.triv)
 (Tree.fork
 (Tree.fork
 (Tree.triv)
 (Tree.fork
 (Tree.triv)
 (Tree.fork
 (Tree.triv)
 (Tree.fork
 (Tree.triv)
 (Tree.fork
 (Tree.triv)
 (Tree.leaf (SV.agg [(SV.arr IntKind.u32 16 x0.core.regs), (SV.v (Value.int IntKind.u32 x0.core.pc)), (SV.arr IntKind.u32 12 (List.set (List.set (List.set (List.set (List.set x0.core.csr 6 x1.snd) 5 x1.fst) 9 (IntKind.wrap IntKind.u32 alarm)) 0 (2 : Int)) 10 (IntKind.wrap IntKind.u32 (Int.fdiv alarm (4294967296 : Int))))), (SV.rd ETy.u8 x0.mem), (SV.v (Value.int IntKind.u64 x0.time)), (SV.rd ETy.u8 x0.out), (SV.v (Value.bool x0.halted))])))))))
 (Tree.triv))))))
 (Tree.fork
 (Tree.triv)
 (Tree.fork
 (Tree.triv)
 (Tree.fork
 (Tree.triv)
 (Tree.fork
 (Tree.fork
 (Tree.fork
 (Tree.triv)
 (Tree.fork
 (Tree.triv)
 (Tree.fork
 (Tree.triv)
 (Tree.fork
 (Tree.triv)
 (Tree.fork
 (Tree.triv)
 (Tree.leaf (SV.agg [(SV.arr IntKind.u32 16 x0.core.regs), (SV.v (Value.int IntKind.u32 x0.core.pc)), (SV.arr IntKind.u32 12 (List.set (List.set (List.set (List.set (List.set x0.core.csr 6 x1.snd) 5 x1.fst) 9 (IntKind.wrap IntKind.u32 alarm)) 10 (IntKind.wrap IntKind.u32 (Int.fdiv alarm (4294967296 : Int)))) 0 (2 : Int))), (SV.rd ETy.u8 x0.mem), (SV.v (Value.int IntKind.u64 x0.time)), (SV.rd ETy.u8 x0.out), (SV.v (Value.bool x0.halted))])))))))
 (Tree.fork
 (Tree.triv)
 (Tree.fork
 (Tree.triv)
 (Tree.fork
 (Tree.triv)
 (Tree.fork
 (Tree.triv)
 (Tree.triv))))))
 (Tree.triv))))))
 (Tree.fork
 (Tree.fork
 (Tree.fork
 (Tree.triv)
 (Tree.fork
 (Tree.triv)
 (Tree.fork
 (Tree.triv)
 (Tree.fork
 (Tree.fork
 (Tree.triv)
 (Tree.fork
 (Tree.triv)
 (Tree.fork
 (Tree.triv)
 (Tree.fork
 (Tree.triv)
 (Tree.fork
 (Tree.triv)
 (Tree.leaf (SV.agg [(SV.arr IntKind.u32 16 x0.core.regs), (SV.v (Value.int IntKind.u32 x0.core.pc)), (SV.arr IntKind.u32 12 (List.set (List.set (List.set (List.set (List.set x0.core.csr 6 x1.snd) 5 x1.fst) 10 (IntKind.wrap IntKind.u32 (Int.fdiv alarm (4294967296 : Int)))) 0 (2 : Int)) 9 (IntKind.wrap IntKind.u32 alarm))), (SV.rd ETy.u8 x0.mem), (SV.v (Value.int IntKind.u64 x0.time)), (SV.rd ETy.u8 x0.out), (SV.v (Value.bool x0.halted))])))))))
 (Tree.fork
 (Tree.triv)
 (Tree.triv))))))
 (Tree.fork
 (Tree.triv)
 (Tree.fork
 (Tree.triv)
 (Tree.fork
 (Tree.fork
 (Tree.fork
 (Tree.triv)
 (Tree.fork
 (Tree.triv)
 (Tree.fork
 (Tree.triv)
 (Tree.fork
 (Tree.triv)
 (Tree.fork
 (Tree.triv)
 (Tree.leaf (SV.agg [(SV.arr IntKind.u32 16 x0.core.regs), (SV.v (Value.int IntKind.u32 x0.core.pc)), (SV.arr IntKind.u32 12 (List.set (List.set (List.set (List.set (List.set x0.core.csr 6 x1.snd) 5 x1.fst) 10 (IntKind.wrap IntKind.u32 (Int.fdiv alarm (4294967296 : Int)))) 9 (IntKind.wrap IntKind.u32 alarm)) 0 (2 : Int))), (SV.rd ETy.u8 x0.mem), (SV.v (Value.int IntKind.u64 x0.time)), (SV.rd ETy.u8 x0.out), (SV.v (Value.bool x0.halted))])))))))
 (Tree.fork
 (Tree.triv)
 (Tree.fork
 (Tree.triv)
 (Tree.fork
 (Tree.triv)
 (Tree.fork
 (Tree.triv)
 (Tree.triv))))))
 (Tree.fork
 (Tree.triv)
 (Tree.triv))))))
 (Tree.triv))))))
 (Tree.fork
 (Tree.triv)
 (Tree.fork
 (Tree.fork
 (Tree.fork
 (Tree.triv)
 (Tree.fork
 (Tree.fork
 (Tree.triv)
 (Tree.fork
 (Tree.triv)
 (Tree.fork
 (Tree.triv)
 (Tree.fork
 (Tree.triv)
 (Tree.fork
 (Tree.fork
 (Tree.triv)
 (Tree.fork
 (Tree.triv)
 (Tree.fork
 (Tree.triv)
 (Tree.fork
 (Tree.triv)
 (Tree.fork
 (Tree.triv)
 (Tree.leaf (SV.agg [(SV.arr IntKind.u32 16 x0.core.regs), (SV.v (Value.int IntKind.u32 x0.core.pc)), (SV.arr IntKind.u32 12 (List.set (List.set (List.set (List.set (List.set x0.core.csr 6 x1.snd) 9 (IntKind.wrap IntKind.u32 alarm)) 0 (2 : Int)) 5 x1.fst) 10 (IntKind.wrap IntKind.u32 (Int.fdiv alarm (4294967296 : Int))))), (SV.rd ETy.u8 x0.mem), (SV.v (Value.int IntKind.u64 x0.time)), (SV.rd ETy.u8 x0.out), (SV.v (Value.bool x0.halted))])))))))
 (Tree.triv))))))
 (Tree.fork
 (Tree.triv)
 (Tree.fork
 (Tree.triv)
 (Tree.fork
 (Tree.fork
 (Tree.triv)
 (Tree.fork
 (Tree.fork
 (Tree.triv)
 (Tree.fork
 (Tree.triv)
 (Tree.fork
 (Tree.triv)
 (Tree.fork
 (Tree.triv)
 (Tree.fork
 (Tree.triv)
 (Tree.leaf (SV.agg [(SV.arr IntKind.u32 16 x0.core.regs), (SV.v (Value.int IntKind.u32 x0.core.pc)), (SV.arr IntKind.u32 12 (List.set (List.set (List.set (List.set (List.set x0.core.csr 6 x1.snd) 9 (IntKind.wrap IntKind.u32 alarm)) 0 (2 : Int)) 10 (IntKind.wrap IntKind.u32 (Int.fdiv alarm (4294967296 : Int)))) 5 x1.fst)), (SV.rd ETy.u8 x0.mem), (SV.v (Value.int IntKind.u64 x0.time)), (SV.rd ETy.u8 x0.out), (SV.v (Value.bool x0.halted))])))))))
 (Tree.fork
 (Tree.triv)
 (Tree.fork
 (Tree.triv)
 (Tree.fork
 (Tree.triv)
 (Tree.triv))))))
 (Tree.triv))))))
 (Tree.fork
 (Tree.fork
 (Tree.fork
 (Tree.triv)
 (Tree.fork
 (Tree.triv)
 (Tree.fork
 (Tree.triv)
 (Tree.fork
 (Tree.triv)
 (Tree.fork
 (Tree.fork
 (Tree.triv)
 (Tree.fork
 (Tree.triv)
 (Tree.fork
 (Tree.triv)
 (Tree.fork
 (Tree.triv)
 (Tree.fork
 (Tree.triv)
 (Tree.leaf (SV.agg [(SV.arr IntKind.u32 16 x0.core.regs), (SV.v (Value.int IntKind.u32 x0.core.pc)), (SV.arr IntKind.u32 12 (List.set (List.set (List.set (List.set (List.set x0.core.csr 6 x1.snd) 9 (IntKind.wrap IntKind.u32 alarm)) 5 x1.fst) 0 (2 : Int)) 10 (IntKind.wrap IntKind.u32 (Int.fdiv alarm (4294967296 : Int))))), (SV.rd ETy.u8 x0.mem), (SV.v (Value.int IntKind.u64 x0.time)), (SV.rd ETy.u8 x0.out), (SV.v (Value.bool x0.halted))])))))))
 (Tree.triv))))))
 (Tree.fork
 (Tree.triv)
 (Tree.fork
 (Tree.triv)
 (Tree.fork
 (Tree.triv)
 (Tree.fork
 (Tree.fork
 (Tree.fork
 (Tree.triv)
 (Tree.fork
 (Tree.triv)
 (Tree.fork
 (Tree.triv)
 (Tree.fork
 (Tree.triv)
 (Tree.fork
 (Tree.triv)
 (Tree.leaf (SV.agg [(SV.arr IntKind.u32 16 x0.core.regs), (SV.v (Value.int IntKind.u32 x0.core.pc)), (SV.arr IntKind.u32 12 (List.set (List.set (List.set (List.set (List.set x0.core.csr 6 x1.snd) 9 (IntKind.wrap IntKind.u32 alarm)) 5 x1.fst) 10 (IntKind.wrap IntKind.u32 (Int.fdiv alarm (4294967296 : Int)))) 0 (2 : Int))), (SV.rd ETy.u8 x0.mem), (SV.v (Value.int IntKind.u64 x0.time)), (SV.rd ETy.u8 x0.out), (SV.v (Value.bool x0.halted))])))))))
 (Tree.fork
 (Tree.triv)
 (Tree.fork
 (Tree.triv)
 (Tree.fork
 (Tree.triv)
 (Tree.fork
 (Tree.triv)
 (Tree.triv))))))
 (Tree.triv))))))
 (Tree.fork
 (Tree.triv)
 (Tree.fork
 (Tree.triv)
 (Tree.fork
 (Tree.fork
 (Tree.fork
 (Tree.triv)
 (Tree.fork
 (Tree.fork
 (Tree.triv)
 (Tree.fork
 (Tree.triv)
 (Tree.fork
 (Tree.triv)
 (Tree.fork
 (Tree.triv)
 (Tree.fork
 (Tree.triv)
 (Tree.leaf (SV.agg [(SV.arr IntKind.u32 16 x0.core.regs), (SV.v (Value.int IntKind.u32 x0.core.pc)), (SV.arr IntKind.u32 12 (List.set (List.set (List.set (List.set (List.set x0.core.csr 6 x1.snd) 9 (IntKind.wrap IntKind.u32 alarm)) 10 (IntKind.wrap IntKind.u32 (Int.fdiv alarm (4294967296 : Int)))) 0 (2 : Int)) 5 x1.fst)), (SV.rd ETy.u8 x0.mem), (SV.v (Value.int IntKind.u64 x0.time)), (SV.rd ETy.u8 x0.out), (SV.v (Value.bool x0.halted))])))))))
 (Tree.fork
 (Tree.triv)
 (Tree.fork
 (Tree.triv)
 (Tree.fork
 (Tree.triv)
 (Tree.triv))))))
 (Tree.fork
 (Tree.fork
 (Tree.fork
 (Tree.triv)
 (Tree.fork
 (Tree.triv)
 (Tree.fork
 (Tree.triv)
 (Tree.fork
 (Tree.triv)
 (Tree.fork
 (Tree.triv)
 (Tree.leaf (SV.agg [(SV.arr IntKind.u32 16 x0.core.regs), (SV.v (Value.int IntKind.u32 x0.core.pc)), (SV.arr IntKind.u32 12 (List.set (List.set (List.set (List.set (List.set x0.core.csr 6 x1.snd) 9 (IntKind.wrap IntKind.u32 alarm)) 10 (IntKind.wrap IntKind.u32 (Int.fdiv alarm (4294967296 : Int)))) 5 x1.fst) 0 (2 : Int))), (SV.rd ETy.u8 x0.mem), (SV.v (Value.int IntKind.u64 x0.time)), (SV.rd ETy.u8 x0.out), (SV.v (Value.bool x0.halted))])))))))
 (Tree.fork
 (Tree.triv)
 (Tree.fork
 (Tree.triv)
 (Tree.fork
 (Tree.triv)
 (Tree.fork
 (Tree.triv)
 (Tree.triv))))))
 (Tree.fork
 (Tree.triv)
 (Tree.fork
 (Tree.triv)
 (Tree.fork
 (Tree.triv)
 (Tree.triv))))))
 (Tree.triv))))))
 (Tree.fork
 (Tree.fork
 (Tree.fork
 (Tree.triv)
 (Tree.fork
 (Tree.fork
 (Tree.triv)
 (Tree.fork
 (Tree.triv)
 (Tree.fork
 (Tree.triv)
 (Tree.fork
 (Tree.fork
 (Tree.triv)
 (Tree.fork
 (Tree.triv)
 (Tree.fork
 (Tree.triv)
 (Tree.fork
 (Tree.triv)
 (Tree.fork
 (Tree.triv)
 (Tree.leaf (SV.agg [(SV.arr IntKind.u32 16 x0.core.regs), (SV.v (Value.int IntKind.u32 x0.core.pc)), (SV.arr IntKind.u32 12 (List.set (List.set (List.set (List.set (List.set x0.core.csr 6 x1.snd) 10 (IntKind.wrap IntKind.u32 (Int.fdiv alarm (4294967296 : Int)))) 0 (2 : Int)) 5 x1.fst) 9 (IntKind.wrap IntKind.u32 alarm))), (SV.rd ETy.u8 x0.mem), (SV.v (Value.int IntKind.u64 x0.time)), (SV.rd ETy.u8 x0.out), (SV.v (Value.bool x0.halted))])))))))
 (Tree.fork
 (Tree.triv)
 (Tree.triv))))))
 (Tree.fork
 (Tree.triv)
 (Tree.fork
 (Tree.fork
 (Tree.triv)
 (Tree.fork
 (Tree.fork
 (Tree.triv)
 (Tree.fork
 (Tree.triv)
 (Tree.fork
 (Tree.triv)
 (Tree.fork
 (Tree.triv)
 (Tree.fork
 (Tree.triv)
 (Tree.leaf (SV.agg [(SV.arr IntKind.u32 16 x0.core.regs), (SV.v (Value.int IntKind.u32 x0.core.pc)), (SV.arr IntKind.u32 12 (List.set (List.set (List.set (List.set (List.set x0.core.csr 6 x1.snd) 10 (IntKind.wrap IntKind.u32 (Int.fdiv alarm (4294967296 : Int)))) 0 (2 : Int)) 9 (IntKind.wrap IntKind.u32 alarm)) 5 x1.fst)), (SV.rd ETy.u8 x0.mem), (SV.v (Value.int IntKind.u64 x0.time)), (SV.rd ETy.u8 x0.out), (SV.v (Value.bool x0.halted))])))))))
 (Tree.fork
 (Tree.triv)
 (Tree.fork
 (Tree.triv)
 (Tree.fork
 (Tree.triv)
 (Tree.triv))))))
 (Tree.fork
 (Tree.triv)
 (Tree.triv))))))
 (Tree.fork
 (Tree.fork
 (Tree.fork
 (Tree.triv)
 (Tree.fork
 (Tree.triv)
 (Tree.fork
 (Tree.triv)
 (Tree.fork
 (Tree.fork
 (Tree.triv)
 (Tree.fork
 (Tree.triv)
 (Tree.fork
 (Tree.triv)
 (Tree.fork
 (Tree.triv)
 (Tree.fork
 (Tree.triv)
 (Tree.leaf (SV.agg [(SV.arr IntKind.u32 16 x0.core.regs), (SV.v (Value.int IntKind.u32 x0.core.pc)), (SV.arr IntKind.u32 12 (List.set (List.set (List.set (List.set (List.set x0.core.csr 6 x1.snd) 10 (IntKind.wrap IntKind.u32 (Int.fdiv alarm (4294967296 : Int)))) 5 x1.fst) 0 (2 : Int)) 9 (IntKind.wrap IntKind.u32 alarm))), (SV.rd ETy.u8 x0.mem), (SV.v (Value.int IntKind.u64 x0.time)), (SV.rd ETy.u8 x0.out), (SV.v (Value.bool x0.halted))])))))))
 (Tree.fork
 (Tree.triv)
 (Tree.triv))))))
 (Tree.fork
 (Tree.triv)
 (Tree.fork
 (Tree.triv)
 (Tree.fork
 (Tree.fork
 (Tree.fork
 (Tree.triv)
 (Tree.fork
 (Tree.triv)
 (Tree.fork
 (Tree.triv)
 (Tree.fork
 (Tree.triv)
 (Tree.fork
 (Tree.triv)
 (Tree.leaf (SV.agg [(SV.arr IntKind.u32 16 x0.core.regs), (SV.v (Value.int IntKind.u32 x0.core.pc)), (SV.arr IntKind.u32 12 (List.set (List.set (List.set (List.set (List.set x0.core.csr 6 x1.snd) 10 (IntKind.wrap IntKind.u32 (Int.fdiv alarm (4294967296 : Int)))) 5 x1.fst) 9 (IntKind.wrap IntKind.u32 alarm)) 0 (2 : Int))), (SV.rd ETy.u8 x0.mem), (SV.v (Value.int IntKind.u64 x0.time)), (SV.rd ETy.u8 x0.out), (SV.v (Value.bool x0.halted))])))))))
 (Tree.fork
 (Tree.triv)
 (Tree.fork
 (Tree.triv)
 (Tree.fork
 (Tree.triv)
 (Tree.fork
 (Tree.triv)
 (Tree.triv))))))
 (Tree.fork
 (Tree.triv)
 (Tree.triv))))))
 (Tree.fork
 (Tree.triv)
 (Tree.fork
 (Tree.fork
 (Tree.fork
 (Tree.triv)
 (Tree.fork
 (Tree.fork
 (Tree.triv)
 (Tree.fork
 (Tree.triv)
 (Tree.fork
 (Tree.triv)
 (Tree.fork
 (Tree.triv)
 (Tree.fork
 (Tree.triv)
 (Tree.leaf (SV.agg [(SV.arr IntKind.u32 16 x0.core.regs), (SV.v (Value.int IntKind.u32 x0.core.pc)), (SV.arr IntKind.u32 12 (List.set (List.set (List.set (List.set (List.set x0.core.csr 6 x1.snd) 10 (IntKind.wrap IntKind.u32 (Int.fdiv alarm (4294967296 : Int)))) 9 (IntKind.wrap IntKind.u32 alarm)) 0 (2 : Int)) 5 x1.fst)), (SV.rd ETy.u8 x0.mem), (SV.v (Value.int IntKind.u64 x0.time)), (SV.rd ETy.u8 x0.out), (SV.v (Value.bool x0.halted))])))))))
 (Tree.fork
 (Tree.triv)
 (Tree.fork
 (Tree.triv)
 (Tree.fork
 (Tree.triv)
 (Tree.triv))))))
 (Tree.fork
 (Tree.fork
 (Tree.fork
 (Tree.triv)
 (Tree.fork
 (Tree.triv)
 (Tree.fork
 (Tree.triv)
 (Tree.fork
 (Tree.triv)
 (Tree.fork
 (Tree.triv)
 (Tree.leaf (SV.agg [(SV.arr IntKind.u32 16 x0.core.regs), (SV.v (Value.int IntKind.u32 x0.core.pc)), (SV.arr IntKind.u32 12 (List.set (List.set (List.set (List.set (List.set x0.core.csr 6 x1.snd) 10 (IntKind.wrap IntKind.u32 (Int.fdiv alarm (4294967296 : Int)))) 9 (IntKind.wrap IntKind.u32 alarm)) 5 x1.fst) 0 (2 : Int))), (SV.rd ETy.u8 x0.mem), (SV.v (Value.int IntKind.u64 x0.time)), (SV.rd ETy.u8 x0.out), (SV.v (Value.bool x0.halted))])))))))
 (Tree.fork
 (Tree.triv)
 (Tree.fork
 (Tree.triv)
 (Tree.fork
 (Tree.triv)
 (Tree.fork
 (Tree.triv)
 (Tree.triv))))))
 (Tree.fork
 (Tree.triv)
 (Tree.fork
 (Tree.triv)
 (Tree.fork
 (Tree.triv)
 (Tree.triv))))))
 (Tree.fork
 (Tree.triv)
 (Tree.triv))))))
 (Tree.triv))))))
 (Tree.fork
 (Tree.fork
 (Tree.fork
 (Tree.triv)
 (Tree.fork
 (Tree.fork
 (Tree.triv)
 (Tree.fork
 (Tree.triv)
 (Tree.fork
 (Tree.fork
 (Tree.triv)
 (Tree.fork
 (Tree.triv)
 (Tree.fork
 (Tree.triv)
 (Tree.fork
 (Tree.triv)
 (Tree.fork
 (Tree.fork
 (Tree.triv)
 (Tree.fork
 (Tree.triv)
 (Tree.fork
 (Tree.triv)
 (Tree.fork
 (Tree.triv)
 (Tree.fork
 (Tree.triv)
 (Tree.leaf (SV.agg [(SV.arr IntKind.u32 16 x0.core.regs), (SV.v (Value.int IntKind.u32 x0.core.pc)), (SV.arr IntKind.u32 12 (List.set (List.set (List.set (List.set (List.set x0.core.csr 9 (IntKind.wrap IntKind.u32 alarm)) 0 (2 : Int)) 5 x1.fst) 6 x1.snd) 10 (IntKind.wrap IntKind.u32 (Int.fdiv alarm (4294967296 : Int))))), (SV.rd ETy.u8 x0.mem), (SV.v (Value.int IntKind.u64 x0.time)), (SV.rd ETy.u8 x0.out), (SV.v (Value.bool x0.halted))])))))))
 (Tree.triv))))))
 (Tree.fork
 (Tree.triv)
 (Tree.fork
 (Tree.fork
 (Tree.triv)
 (Tree.fork
 (Tree.triv)
 (Tree.fork
 (Tree.fork
 (Tree.triv)
 (Tree.fork
 (Tree.triv)
 (Tree.fork
 (Tree.triv)
 (Tree.fork
 (Tree.triv)
 (Tree.fork
 (Tree.triv)
 (Tree.leaf (SV.agg [(SV.arr IntKind.u32 16 x0.core.regs), (SV.v (Value.int IntKind.u32 x0.core.pc)), (SV.arr IntKind.u32 12 (List.set (List.set (List.set (List.set (List.set x0.core.csr 9 (IntKind.wrap IntKind.u32 alarm)) 0 (2 : Int)) 5 x1.fst) 10 (IntKind.wrap IntKind.u32 (Int.fdiv alarm (4294967296 : Int)))) 6 x1.snd)), (SV.rd ETy.u8 x0.mem), (SV.v (Value.int IntKind.u64 x0.time)), (SV.rd ETy.u8 x0.out), (SV.v (Value.bool x0.halted))])))))))
 (Tree.fork
 (Tree.triv)
 (Tree.fork
 (Tree.triv)
 (Tree.triv))))))
 (Tree.triv))))))
 (Tree.fork
 (Tree.fork
 (Tree.triv)
 (Tree.fork
 (Tree.fork
 (Tree.triv)
 (Tree.fork
 (Tree.triv)
 (Tree.fork
 (Tree.triv)
 (Tree.fork
 (Tree.triv)
 (Tree.fork
 (Tree.fork
 (Tree.triv)
 (Tree.fork
 (Tree.triv)
 (Tree.fork
 (Tree.triv)
 (Tree.fork
 (Tree.triv)
 (Tree.fork
 (Tree.triv)
 (Tree.leaf (SV.agg [(SV.arr IntKind.u32 16 x0.core.regs), (SV.v (Value.int IntKind.u32 x0.core.pc)), (SV.arr IntKind.u32 12 (List.set (List.set (List.set (List.set (List.set x0.core.csr 9 (IntKind.wrap IntKind.u32 alarm)) 0 (2 : Int)) 6 x1.snd) 5 x1.fst) 10 (IntKind.wrap IntKind.u32 (Int.fdiv alarm (4294967296 : Int))))), (SV.rd ETy.u8 x0.mem), (SV.v (Value.int IntKind.u64 x0.time)), (SV.rd ETy.u8 x0.out), (SV.v (Value.bool x0.halted))])))))))
 (Tree.triv))))))
 (Tree.fork
 (Tree.triv)
 (Tree.fork
 (Tree.triv)
 (Tree.fork
 (Tree.fork
 (Tree.triv)
 (Tree.fork
 (Tree.fork
 (Tree.triv)
 (Tree.fork
 (Tree.triv)
 (Tree.fork
 (Tree.triv)
 (Tree.fork
 (Tree.triv)
 (Tree.fork
 (Tree.triv)
 (Tree.leaf (SV.agg [(SV.arr IntKind.u32 16 x0.core.regs), (SV.v (Value.int IntKind.u32 x0.core.pc)), (SV.arr IntKind.u32 12 (List.set (List.set (List.set (List.set (List.set x0.core.csr 9 (IntKind.wrap IntKind.u32 alarm)) 0 (2 : Int)) 6 x1.snd) 10 (IntKind.wrap IntKind.u32 (Int.fdiv alarm (4294967296 : Int)))) 5 x1.fst)), (SV.rd ETy.u8 x0.mem), (SV.v (Value.int IntKind.u64 x0.time)), (SV.rd ETy.u8 x0.out), (SV.v (Value.bool x0.halted))])))))))
 (Tree.fork
 (Tree.triv)
 (Tree.fork
 (Tree.triv)
 (Tree.fork
 (Tree.triv)
 (Tree.triv))))))
 (Tree.triv))))))
 (Tree.fork
 (Tree.triv)
 (Tree.fork
 (Tree.fork
 (Tree.triv)
 (Tree.fork
 (Tree.fork
 (Tree.triv)
 (Tree.fork
 (Tree.triv)
 (Tree.fork
 (Tree.fork
 (Tree.triv)
 (Tree.fork
 (Tree.triv)
 (Tree.fork
 (Tree.triv)
 (Tree.fork
 (Tree.triv)
 (Tree.fork
 (Tree.triv)
 (Tree.leaf (SV.agg [(SV.arr IntKind.u32 16 x0.core.regs), (SV.v (Value.int IntKind.u32 x0.core.pc)), (SV.arr IntKind.u32 12 (List.set (List.set (List.set (List.set (List.set x0.core.csr 9 (IntKind.wrap IntKind.u32 alarm)) 0 (2 : Int)) 10 (IntKind.wrap IntKind.u32 (Int.fdiv alarm (4294967296 : Int)))) 5 x1.fst) 6 x1.snd)), (SV.rd ETy.u8 x0.mem), (SV.v (Value.int IntKind.u64 x0.time)), (SV.rd ETy.u8 x0.out), (SV.v (Value.bool x0.halted))])))))))
 (Tree.fork
 (Tree.triv)
 (Tree.fork
 (Tree.triv)
 (Tree.triv))))))
 (Tree.fork
 (Tree.fork
 (Tree.triv)
 (Tree.fork
 (Tree.fork
 (Tree.triv)
 (Tree.fork
 (Tree.triv)
 (Tree.fork
 (Tree.triv)
 (Tree.fork
 (Tree.triv)
 (Tree.fork
 (Tree.triv)
 (Tree.leaf (SV.agg [(SV.arr IntKind.u32 16 x0.core.regs), (SV.v (Value.int IntKind.u32 x0.core.pc)), (SV.arr IntKind.u32 12 (List.set (List.set (List.set (List.set (List.set x0.core.csr 9 (IntKind.wrap IntKind.u32 alarm)) 0 (2 : Int)) 10 (IntKind.wrap IntKind.u32 (Int.fdiv alarm (4294967296 : Int)))) 6 x1.snd) 5 x1.fst)), (SV.rd ETy.u8 x0.mem), (SV.v (Value.int IntKind.u64 x0.time)), (SV.rd ETy.u8 x0.out), (SV.v (Value.bool x0.halted))])))))))
 (Tree.fork
 (Tree.triv)
 (Tree.fork
 (Tree.triv)
 (Tree.fork
 (Tree.triv)
 (Tree.triv))))))
 (Tree.fork
 (Tree.triv)
 (Tree.fork
 (Tree.triv)
 (Tree.triv))))))
 (Tree.triv))))))
 (Tree.fork
 (Tree.fork
 (Tree.fork
 (Tree.triv)
 (Tree.fork
 (Tree.triv)
 (Tree.fork
 (Tree.fork
 (Tree.triv)
 (Tree.fork
 (Tree.triv)
 (Tree.fork
 (Tree.triv)
 (Tree.fork
 (Tree.triv)
 (Tree.fork
 (Tree.fork
 (Tree.triv)
 (Tree.fork
 (Tree.triv)
 (Tree.fork
 (Tree.triv)
 (Tree.fork
 (Tree.triv)
 (Tree.fork
 (Tree.triv)
 (Tree.leaf (SV.agg [(SV.arr IntKind.u32 16 x0.core.regs), (SV.v (Value.int IntKind.u32 x0.core.pc)), (SV.arr IntKind.u32 12 (List.set (List.set (List.set (List.set (List.set x0.core.csr 9 (IntKind.wrap IntKind.u32 alarm)) 5 x1.fst) 0 (2 : Int)) 6 x1.snd) 10 (IntKind.wrap IntKind.u32 (Int.fdiv alarm (4294967296 : Int))))), (SV.rd ETy.u8 x0.mem), (SV.v (Value.int IntKind.u64 x0.time)), (SV.rd ETy.u8 x0.out), (SV.v (Value.bool x0.halted))])))))))
 (Tree.triv))))))
 (Tree.fork
 (Tree.triv)
 (Tree.fork
 (Tree.fork
 (Tree.triv)
 (Tree.fork
 (Tree.triv)
 (Tree.fork
 (Tree.fork
 (Tree.triv)
 (Tree.fork
 (Tree.triv)
 (Tree.fork
 (Tree.triv)
 (Tree.fork
 (Tree.triv)
 (Tree.fork
 (Tree.triv)
 (Tree.leaf (SV.agg [(SV.arr IntKind.u32 16 x0.core.regs), (SV.v (Value.int IntKind.u32 x0.core.pc)), (SV.arr IntKind.u32 12 (List.set (List.set (List.set (List.set (List.set x0.core.csr 9 (IntKind.wrap IntKind.u32 alarm)) 5 x1.fst) 0 (2 : Int)) 10 (IntKind.wrap IntKind.u32 (Int.fdiv alarm (4294967296 : Int)))) 6 x1.snd)), (SV.rd ETy.u8 x0.mem), (SV.v (Value.int IntKind.u64 x0.time)), (SV.rd ETy.u8 x0.out), (SV.v (Value.bool x0.halted))])))))))
 (Tree.fork
 (Tree.triv)
 (Tree.fork
 (Tree.triv)
 (Tree.triv))))))
 (Tree.triv))))))
 (Tree.fork
 (Tree.triv)
 (Tree.fork
 (Tree.fork
 (Tree.fork
 (Tree.triv)
 (Tree.fork
 (Tree.triv)
 (Tree.fork
 (Tree.triv)
 (Tree.fork
 (Tree.triv)
 (Tree.fork
 (Tree.fork
 (Tree.triv)
 (Tree.fork
 (Tree.triv)
 (Tree.fork
 (Tree.triv)
 (Tree.fork
 (Tree.triv)
 (Tree.fork
 (Tree.triv)
 (Tree.leaf (SV.agg [(SV.arr IntKind.u32 16 x0.core.regs), (SV.v (Value.int IntKind.u32 x0.core.pc)), (SV.arr IntKind.u32 12 (List.set (List.set (List.set (List.set (List.set x0.core.csr 9 (IntKind.wrap IntKind.u32 alarm)) 5 x1.fst) 6 x1.snd) 0 (2 : Int)) 10 (IntKind.wrap IntKind.u32 (Int.fdiv alarm (4294967296 : Int))))), (SV.rd ETy.u8 x0.mem), (SV.v (Value.int IntKind.u64 x0.time)), (SV.rd ETy.u8 x0.out), (SV.v (Value.bool x0.halted))])))))))
 (Tree.triv))))))
 (Tree.fork
 (Tree.triv)
 (Tree.fork
 (Tree.triv)
 (Tree.fork
 (Tree.triv)
 (Tree.fork
 (Tree.fork
 (Tree.fork
 (Tree.triv)
 (Tree.fork
 (Tree.triv)
 (Tree.fork
 (Tree.triv)
 (Tree.fork
 (Tree.triv)
 (Tree.fork
 (Tree.triv)
 (Tree.leaf (SV.agg [(SV.arr IntKind.u32 16 x0.core.regs), (SV.v (Value.int IntKind.u32 x0.core.pc)), (SV.arr IntKind.u32 12 (List.set (List.set (List.set (List.set (List.set x0.core.csr 9 (IntKind.wrap IntKind.u32 alarm)) 5 x1.fst) 6 x1.snd) 10 (IntKind.wrap IntKind.u32 (Int.fdiv alarm (4294967296 : Int)))) 0 (2 : Int))), (SV.rd ETy.u8 x0.mem), (SV.v (Value.int IntKind.u64 x0.time)), (SV.rd ETy.u8 x0.out), (SV.v (Value.bool x0.halted))])))))))
 (Tree.fork
 (Tree.triv)
 (Tree.fork
 (Tree.triv)
 (Tree.fork
 (Tree.triv)
 (Tree.fork
 (Tree.triv)
 (Tree.triv))))))
 (Tree.triv))))))
 (Tree.fork
 (Tree.triv)
 (Tree.fork
 (Tree.fork
 (Tree.fork
 (Tree.triv)
 (Tree.fork
 (Tree.triv)
 (Tree.fork
 (Tree.fork
 (Tree.triv)
 (Tree.fork
 (Tree.triv)
 (Tree.fork
 (Tree.triv)
 (Tree.fork
 (Tree.triv)
 (Tree.fork
 (Tree.triv)
 (Tree.leaf (SV.agg [(SV.arr IntKind.u32 16 x0.core.regs), (SV.v (Value.int IntKind.u32 x0.core.pc)), (SV.arr IntKind.u32 12 (List.set (List.set (List.set (List.set (List.set x0.core.csr 9 (IntKind.wrap IntKind.u32 alarm)) 5 x1.fst) 10 (IntKind.wrap IntKind.u32 (Int.fdiv alarm (4294967296 : Int)))) 0 (2 : Int)) 6 x1.snd)), (SV.rd ETy.u8 x0.mem), (SV.v (Value.int IntKind.u64 x0.time)), (SV.rd ETy.u8 x0.out), (SV.v (Value.bool x0.halted))])))))))
 (Tree.fork
 (Tree.triv)
 (Tree.fork
 (Tree.triv)
 (Tree.triv))))))
 (Tree.fork
 (Tree.triv)
 (Tree.fork
 (Tree.fork
 (Tree.fork
 (Tree.triv)
 (Tree.fork
 (Tree.triv)
 (Tree.fork
 (Tree.triv)
 (Tree.fork
 (Tree.triv)
 (Tree.fork
 (Tree.triv)
 (Tree.leaf (SV.agg [(SV.arr IntKind.u32 16 x0.core.regs), (SV.v (Value.int IntKind.u32 x0.core.pc)), (SV.arr IntKind.u32 12 (List.set (List.set (List.set (List.set (List.set x0.core.csr 9 (IntKind.wrap IntKind.u32 alarm)) 5 x1.fst) 10 (IntKind.wrap IntKind.u32 (Int.fdiv alarm (4294967296 : Int)))) 6 x1.snd) 0 (2 : Int))), (SV.rd ETy.u8 x0.mem), (SV.v (Value.int IntKind.u64 x0.time)), (SV.rd ETy.u8 x0.out), (SV.v (Value.bool x0.halted))])))))))
 (Tree.fork
 (Tree.triv)
 (Tree.fork
 (Tree.triv)
 (Tree.fork
 (Tree.triv)
 (Tree.fork
 (Tree.triv)
 (Tree.triv))))))
 (Tree.fork
 (Tree.triv)
 (Tree.fork
 (Tree.triv)
 (Tree.triv))))))
 (Tree.triv))))))
 (Tree.fork
 (Tree.fork
 (Tree.fork
 (Tree.triv)
 (Tree.fork
 (Tree.fork
 (Tree.triv)
 (Tree.fork
 (Tree.triv)
 (Tree.fork
 (Tree.triv)
 (Tree.fork
 (Tree.triv)
 (Tree.fork
 (Tree.fork
 (Tree.triv)
 (Tree.fork
 (Tree.triv)
 (Tree.fork
 (Tree.triv)
 (Tree.fork
 (Tree.triv)
 (Tree.fork
 (Tree.triv)
 (Tree.leaf (SV.agg [(SV.arr IntKind.u32 16 x0.core.regs), (SV.v (Value.int IntKind.u32 x0.core.pc)), (SV.arr IntKind.u32 12 (List.set (List.set (List.set (List.set (List.set x0.core.csr 9 (IntKind.wrap IntKind.u32 alarm)) 6 x1.snd) 0 (2 : Int)) 5 x1.fst) 10 (IntKind.wrap IntKind.u32 (Int.fdiv alarm (4294967296 : Int))))), (SV.rd ETy.u8 x0.mem), (SV.v (Value.int IntKind.u64 x0.time)), (SV.rd ETy.u8 x0.out), (SV.v (Value.bool x0.halted))])))))))
 (Tree.triv))))))
 (Tree.fork
 (Tree.triv)
 (Tree.fork
 (Tree.triv)
 (Tree.fork
 (Tree.fork
 (Tree.triv)
 (Tree.fork
 (Tree.fork
 (Tree.triv)
 (Tree.fork
 (Tree.triv)
 (Tree.fork
 (Tree.triv)
 (Tree.fork
 (Tree.triv)
 (Tree.fork
 (Tree.triv)
 (Tree.leaf (SV.agg [(SV.arr IntKind.u32 16 x0.core.regs), (SV.v (Value.int IntKind.u32 x0.core.pc)), (SV.arr IntKind.u32 12 (List.set (List.set (List.set (List.set (List.set x0.core.csr 9 (IntKind.wrap IntKind.u32 alarm)) 6 x1.snd) 0 (2 : Int)) 10 (IntKind.wrap IntKind.u32 (Int.fdiv alarm (4294967296 : Int)))) 5 x1.fst)), (SV.rd ETy.u8 x0.mem), (SV.v (Value.int IntKind.u64 x0.time)), (SV.rd ETy.u8 x0.out), (SV.v (Value.bool x0.halted))])))))))
 (Tree.fork
 (Tree.triv)
 (Tree.fork
 (Tree.triv)
 (Tree.fork
 (Tree.triv)
 (Tree.triv))))))
 (Tree.triv))))))
 (Tree.fork
 (Tree.fork
 (Tree.fork
 (Tree.triv)
 (Tree.fork
 (Tree.triv)
 (Tree.fork
 (Tree.triv)
 (Tree.fork
 (Tree.triv)
 (Tree.fork
 (Tree.fork
 (Tree.triv)
 (Tree.fork
 (Tree.triv)
 (Tree.fork
 (Tree.triv)
 (Tree.fork
 (Tree.triv)
 (Tree.fork
 (Tree.triv)
 (Tree.leaf (SV.agg [(SV.arr IntKind.u32 16 x0.core.regs), (SV.v (Value.int IntKind.u32 x0.core.pc)), (SV.arr IntKind.u32 12 (List.set (List.set (List.set (List.set (List.set x0.core.csr 9 (IntKind.wrap IntKind.u32 alarm)) 6 x1.snd) 5 x1.fst) 0 (2 : Int)) 10 (IntKind.wrap IntKind.u32 (Int.fdiv alarm (4294967296 : Int))))), (SV.rd ETy.u8 x0.mem), (SV.v (Value.int IntKind.u64 x0.time)), (SV.rd ETy.u8 x0.out), (SV.v (Value.bool x0.halted))])))))))
 (Tree.triv))))))
 (Tree.fork
 (Tree.triv)
 (Tree.fork
 (Tree.triv)
 (Tree.fork
 (Tree.triv)
 (Tree.fork
 (Tree.fork
 (Tree.fork
 (Tree.triv)
 (Tree.fork
 (Tree.triv)
 (Tree.fork
 (Tree.triv)
 (Tree.fork
 (Tree.triv)
 (Tree.fork
 (Tree.triv)
 (Tree.leaf (SV.agg [(SV.arr IntKind.u32 16 x0.core.regs), (SV.v (Value.int IntKind.u32 x0.core.pc)), (SV.arr IntKind.u32 12 (List.set (List.set (List.set (List.set (List.set x0.core.csr 9 (IntKind.wrap IntKind.u32 alarm)) 6 x1.snd) 5 x1.fst) 10 (IntKind.wrap IntKind.u32 (Int.fdiv alarm (4294967296 : Int)))) 0 (2 : Int))), (SV.rd ETy.u8 x0.mem), (SV.v (Value.int IntKind.u64 x0.time)), (SV.rd ETy.u8 x0.out), (SV.v (Value.bool x0.halted))])))))))
 (Tree.fork
 (Tree.triv)
 (Tree.fork
 (Tree.triv)
 (Tree.fork
 (Tree.triv)
 (Tree.fork
 (Tree.triv)
 (Tree.triv))))))
 (Tree.triv))))))
 (Tree.fork
 (Tree.triv)
 (Tree.fork
 (Tree.triv)
 (Tree.fork
 (Tree.fork
 (Tree.fork
 (Tree.triv)
 (Tree.fork
 (Tree.fork
 (Tree.triv)
 (Tree.fork
 (Tree.triv)
 (Tree.fork
 (Tree.triv)
 (Tree.fork
 (Tree.triv)
 (Tree.fork
 (Tree.triv)
 (Tree.leaf (SV.agg [(SV.arr IntKind.u32 16 x0.core.regs), (SV.v (Value.int IntKind.u32 x0.core.pc)), (SV.arr IntKind.u32 12 (List.set (List.set (List.set (List.set (List.set x0.core.csr 9 (IntKind.wrap IntKind.u32 alarm)) 6 x1.snd) 10 (IntKind.wrap IntKind.u32 (Int.fdiv alarm (4294967296 : Int)))) 0 (2 : Int)) 5 x1.fst)), (SV.rd ETy.u8 x0.mem), (SV.v (Value.int IntKind.u64 x0.time)), (SV.rd ETy.u8 x0.out), (SV.v (Value.bool x0.halted))])))))))
 (Tree.fork
 (Tree.triv)
 (Tree.fork
 (Tree.triv)
 (Tree.fork
 (Tree.triv)
 (Tree.triv))))))
 (Tree.fork
 (Tree.fork
 (Tree.fork
 (Tree.triv)
 (Tree.fork
 (Tree.triv)
 (Tree.fork
 (Tree.triv)
 (Tree.fork
 (Tree.triv)
 (Tree.fork
 (Tree.triv)
 (Tree.leaf (SV.agg [(SV.arr IntKind.u32 16 x0.core.regs), (SV.v (Value.int IntKind.u32 x0.core.pc)), (SV.arr IntKind.u32 12 (List.set (List.set (List.set (List.set (List.set x0.core.csr 9 (IntKind.wrap IntKind.u32 alarm)) 6 x1.snd) 10 (IntKind.wrap IntKind.u32 (Int.fdiv alarm (4294967296 : Int)))) 5 x1.fst) 0 (2 : Int))), (SV.rd ETy.u8 x0.mem), (SV.v (Value.int IntKind.u64 x0.time)), (SV.rd ETy.u8 x0.out), (SV.v (Value.bool x0.halted))])))))))
 (Tree.fork
 (Tree.triv)
 (Tree.fork
 (Tree.triv)
 (Tree.fork
 (Tree.triv)
 (Tree.fork
 (Tree.triv)
 (Tree.triv))))))
 (Tree.fork
 (Tree.triv)
 (Tree.fork
 (Tree.triv)
 (Tree.fork
 (Tree.triv)
 (Tree.triv))))))
 (Tree.triv))))))
 (Tree.fork
 (Tree.triv)
 (Tree.fork
 (Tree.fork
 (Tree.fork
 (Tree.triv)
 (Tree.fork
 (Tree.fork
 (Tree.triv)
 (Tree.fork
 (Tree.triv)
 (Tree.fork
 (Tree.fork
 (Tree.triv)
 (Tree.fork
 (Tree.triv)
 (Tree.fork
 (Tree.triv)
 (Tree.fork
 (Tree.triv)
 (Tree.fork
 (Tree.triv)
 (Tree.leaf (SV.agg [(SV.arr IntKind.u32 16 x0.core.regs), (SV.v (Value.int IntKind.u32 x0.core.pc)), (SV.arr IntKind.u32 12 (List.set (List.set (List.set (List.set (List.set x0.core.csr 9 (IntKind.wrap IntKind.u32 alarm)) 10 (IntKind.wrap IntKind.u32 (Int.fdiv alarm (4294967296 : Int)))) 0 (2 : Int)) 5 x1.fst) 6 x1.snd)), (SV.rd ETy.u8 x0.mem), (SV.v (Value.int IntKind.u64 x0.time)), (SV.rd ETy.u8 x0.out), (SV.v (Value.bool x0.halted))])))))))
 (Tree.fork
 (Tree.triv)
 (Tree.fork
 (Tree.triv)
 (Tree.triv))))))
 (Tree.fork
 (Tree.fork
 (Tree.triv)
 (Tree.fork
 (Tree.fork
 (Tree.triv)
 (Tree.fork
 (Tree.triv)
 (Tree.fork
 (Tree.triv)
 (Tree.fork
 (Tree.triv)
 (Tree.fork
 (Tree.triv)
 (Tree.leaf (SV.agg [(SV.arr IntKind.u32 16 x0.core.regs), (SV.v (Value.int IntKind.u32 x0.core.pc)), (SV.arr IntKind.u32 12 (List.set (List.set (List.set (List.set (List.set x0.core.csr 9 (IntKind.wrap IntKind.u32 alarm)) 10 (IntKind.wrap IntKind.u32 (Int.fdiv alarm (4294967296 : Int)))) 0 (2 : Int)) 6 x1.snd) 5 x1.fst)), (SV.rd ETy.u8 x0.mem), (SV.v (Value.int IntKind.u64 x0.time)), (SV.rd ETy.u8 x0.out), (SV.v (Value.bool x0.halted))])))))))
 (Tree.fork
 (Tree.triv)
 (Tree.fork
 (Tree.triv)
 (Tree.fork
 (Tree.triv)
 (Tree.triv))))))
 (Tree.fork
 (Tree.triv)
 (Tree.fork
 (Tree.triv)
 (Tree.triv))))))
 (Tree.fork
 (Tree.fork
 (Tree.fork
 (Tree.triv)
 (Tree.fork
 (Tree.triv)
 (Tree.fork
 (Tree.fork
 (Tree.triv)
 (Tree.fork
 (Tree.triv)
 (Tree.fork
 (Tree.triv)
 (Tree.fork
 (Tree.triv)
 (Tree.fork
 (Tree.triv)
 (Tree.leaf (SV.agg [(SV.arr IntKind.u32 16 x0.core.regs), (SV.v (Value.int IntKind.u32 x0.core.pc)), (SV.arr IntKind.u32 12 (List.set (List.set (List.set (List.set (List.set x0.core.csr 9 (IntKind.wrap IntKind.u32 alarm)) 10 (IntKind.wrap IntKind.u32 (Int.fdiv alarm (4294967296 : Int)))) 5 x1.fst) 0 (2 : Int)) 6 x1.snd)), (SV.rd ETy.u8 x0.mem), (SV.v (Value.int IntKind.u64 x0.time)), (SV.rd ETy.u8 x0.out), (SV.v (Value.bool x0.halted))])))))))
 (Tree.fork
 (Tree.triv)
 (Tree.fork
 (Tree.triv)
 (Tree.triv))))))
 (Tree.fork
 (Tree.triv)
 (Tree.fork
 (Tree.fork
 (Tree.fork
 (Tree.triv)
 (Tree.fork
 (Tree.triv)
 (Tree.fork
 (Tree.triv)
 (Tree.fork
 (Tree.triv)
 (Tree.fork
 (Tree.triv)
 (Tree.leaf (SV.agg [(SV.arr IntKind.u32 16 x0.core.regs), (SV.v (Value.int IntKind.u32 x0.core.pc)), (SV.arr IntKind.u32 12 (List.set (List.set (List.set (List.set (List.set x0.core.csr 9 (IntKind.wrap IntKind.u32 alarm)) 10 (IntKind.wrap IntKind.u32 (Int.fdiv alarm (4294967296 : Int)))) 5 x1.fst) 6 x1.snd) 0 (2 : Int))), (SV.rd ETy.u8 x0.mem), (SV.v (Value.int IntKind.u64 x0.time)), (SV.rd ETy.u8 x0.out), (SV.v (Value.bool x0.halted))])))))))
 (Tree.fork
 (Tree.triv)
 (Tree.fork
 (Tree.triv)
 (Tree.fork
 (Tree.triv)
 (Tree.fork
 (Tree.triv)
 (Tree.triv))))))
 (Tree.fork
 (Tree.triv)
 (Tree.fork
 (Tree.triv)
 (Tree.triv))))))
 (Tree.fork
 (Tree.fork
 (Tree.fork
 (Tree.triv)
 (Tree.fork
 (Tree.fork
 (Tree.triv)
 (Tree.fork
 (Tree.triv)
 (Tree.fork
 (Tree.triv)
 (Tree.fork
 (Tree.triv)
 (Tree.fork
 (Tree.triv)
 (Tree.leaf (SV.agg [(SV.arr IntKind.u32 16 x0.core.regs), (SV.v (Value.int IntKind.u32 x0.core.pc)), (SV.arr IntKind.u32 12 (List.set (List.set (List.set (List.set (List.set x0.core.csr 9 (IntKind.wrap IntKind.u32 alarm)) 10 (IntKind.wrap IntKind.u32 (Int.fdiv alarm (4294967296 : Int)))) 6 x1.snd) 0 (2 : Int)) 5 x1.fst)), (SV.rd ETy.u8 x0.mem), (SV.v (Value.int IntKind.u64 x0.time)), (SV.rd ETy.u8 x0.out), (SV.v (Value.bool x0.halted))])))))))
 (Tree.fork
 (Tree.triv)
 (Tree.fork
 (Tree.triv)
 (Tree.fork
 (Tree.triv)
 (Tree.triv))))))
 (Tree.fork
 (Tree.fork
 (Tree.fork
 (Tree.triv)
 (Tree.fork
 (Tree.triv)
 (Tree.fork
 (Tree.triv)
 (Tree.fork
 (Tree.triv)
 (Tree.fork
 (Tree.triv)
 (Tree.leaf (SV.agg [(SV.arr IntKind.u32 16 x0.core.regs), (SV.v (Value.int IntKind.u32 x0.core.pc)), (SV.arr IntKind.u32 12 (List.set (List.set (List.set (List.set (List.set x0.core.csr 9 (IntKind.wrap IntKind.u32 alarm)) 10 (IntKind.wrap IntKind.u32 (Int.fdiv alarm (4294967296 : Int)))) 6 x1.snd) 5 x1.fst) 0 (2 : Int))), (SV.rd ETy.u8 x0.mem), (SV.v (Value.int IntKind.u64 x0.time)), (SV.rd ETy.u8 x0.out), (SV.v (Value.bool x0.halted))])))))))
 (Tree.fork
 (Tree.triv)
 (Tree.fork
 (Tree.triv)
 (Tree.fork
 (Tree.triv)
 (Tree.fork
 (Tree.triv)
 (Tree.triv))))))
 (Tree.fork
 (Tree.triv)
 (Tree.fork
 (Tree.triv)
 (Tree.fork
 (Tree.triv)
 (Tree.triv))))))
 (Tree.fork
 (Tree.triv)
 (Tree.fork
 (Tree.triv)
 (Tree.triv))))))
 (Tree.triv))))))
 (Tree.fork
 (Tree.fork
 (Tree.fork
 (Tree.triv)
 (Tree.fork
 (Tree.fork
 (Tree.triv)
 (Tree.fork
 (Tree.triv)
 (Tree.fork
 (Tree.fork
 (Tree.triv)
 (Tree.fork
 (Tree.triv)
 (Tree.fork
 (Tree.triv)
 (Tree.fork
 (Tree.fork
 (Tree.triv)
 (Tree.fork
 (Tree.triv)
 (Tree.fork
 (Tree.triv)
 (Tree.fork
 (Tree.triv)
 (Tree.fork
 (Tree.triv)
 (Tree.leaf (SV.agg [(SV.arr IntKind.u32 16 x0.core.regs), (SV.v (Value.int IntKind.u32 x0.core.pc)), (SV.arr IntKind.u32 12 (List.set (List.set (List.set (List.set (List.set x0.core.csr 10 (IntKind.wrap IntKind.u32 (Int.fdiv alarm (4294967296 : Int)))) 0 (2 : Int)) 5 x1.fst) 6 x1.snd) 9 (IntKind.wrap IntKind.u32 alarm))), (SV.rd ETy.u8 x0.mem), (SV.v (Value.int IntKind.u64 x0.time)), (SV.rd ETy.u8 x0.out), (SV.v (Value.bool x0.halted))])))))))
 (Tree.fork
 (Tree.triv)
 (Tree.triv))))))
 (Tree.fork
 (Tree.fork
 (Tree.triv)
 (Tree.fork
 (Tree.triv)
 (Tree.fork
 (Tree.fork
 (Tree.triv)
 (Tree.fork
 (Tree.triv)
 (Tree.fork
 (Tree.triv)
 (Tree.fork
 (Tree.triv)
 (Tree.fork
 (Tree.triv)
 (Tree.leaf (SV.agg [(SV.arr IntKind.u32 16 x0.core.regs), (SV.v (Value.int IntKind.u32 x0.core.pc)), (SV.arr IntKind.u32 12 (List.set (List.set (List.set (List.set (List.set x0.core.csr 10 (IntKind.wrap IntKind.u32 (Int.fdiv alarm (4294967296 : Int)))) 0 (2 : Int)) 5 x1.fst) 9 (IntKind.wrap IntKind.u32 alarm)) 6 x1.snd)), (SV.rd ETy.u8 x0.mem), (SV.v (Value.int IntKind.u64 x0.time)), (SV.rd ETy.u8 x0.out), (SV.v (Value.bool x0.halted))])))))))
 (Tree.fork
 (Tree.triv)
 (Tree.fork
 (Tree.triv)
 (Tree.triv))))))
 (Tree.fork
 (Tree.triv)
 (Tree.triv))))))
 (Tree.fork
 (Tree.fork
 (Tree.triv)
 (Tree.fork
 (Tree.fork
 (Tree.triv)
 (Tree.fork
 (Tree.triv)
 (Tree.fork
 (Tree.triv)
 (Tree.fork
 (Tree.fork
 (Tree.triv)
 (Tree.fork
 (Tree.triv)
 (Tree.fork
 (Tree.triv)
 (Tree.fork
 (Tree.triv)
 (Tree.fork
 (Tree.triv)
 (Tree.leaf (SV.agg [(SV.arr IntKind.u32 16 x0.core.regs), (SV.v (Value.int IntKind.u32 x0.core.pc)), (SV.arr IntKind.u32 12 (List.set (List.set (List.set (List.set (List.set x0.core.csr 10 (IntKind.wrap IntKind.u32 (Int.fdiv alarm (4294967296 : Int)))) 0 (2 : Int)) 6 x1.snd) 5 x1.fst) 9 (IntKind.wrap IntKind.u32 alarm))), (SV.rd ETy.u8 x0.mem), (SV.v (Value.int IntKind.u64 x0.time)), (SV.rd ETy.u8 x0.out), (SV.v (Value.bool x0.halted))])))))))
 (Tree.fork
 (Tree.triv)
 (Tree.triv))))))
 (Tree.fork
 (Tree.triv)
 (Tree.fork
 (Tree.fork
 (Tree.triv)
 (Tree.fork
 (Tree.fork
 (Tree.triv)
 (Tree.fork
 (Tree.triv)
 (Tree.fork
 (Tree.triv)
 (Tree.fork
 (Tree.triv)
 (Tree.fork
 (Tree.triv)
 (Tree.leaf (SV.agg [(SV.arr IntKind.u32 16 x0.core.regs), (SV.v (Value.int IntKind.u32 x0.core.pc)), (SV.arr IntKind.u32 12 (List.set (List.set (List.set (List.set (List.set x0.core.csr 10 (IntKind.wrap IntKind.u32 (Int.fdiv alarm (4294967296 : Int)))) 0 (2 : Int)) 6 x1.snd) 9 (IntKind.wrap IntKind.u32 alarm)) 5 x1.fst)), (SV.rd ETy.u8 x0.mem), (SV.v (Value.int IntKind.u64 x0.time)), (SV.rd ETy.u8 x0.out), (SV.v (Value.bool x0.halted))])))))))
 (Tree.fork
 (Tree.triv)
 (Tree.fork
 (Tree.triv)
 (Tree.fork
 (Tree.triv)
 (Tree.triv))))))
 (Tree.fork
 (Tree.triv)
 (Tree.triv))))))
 (Tree.fork
 (Tree.fork
 (Tree.triv)
 (Tree.fork
 (Tree.fork
 (Tree.triv)
 (Tree.fork
 (Tree.triv)
 (Tree.fork
 (Tree.fork
 (Tree.triv)
 (Tree.fork
 (Tree.triv)
 (Tree.fork
 (Tree.triv)
 (Tree.fork
 (Tree.triv)
 (Tree.fork
 (Tree.triv)
 (Tree.leaf (SV.agg [(SV.arr IntKind.u32 16 x0.core.regs), (SV.v (Value.int IntKind.u32 x0.core.pc)), (SV.arr IntKind.u32 12 (List.set (List.set (List.set (List.set (List.set x0.core.csr 10 (IntKind.wrap IntKind.u32 (Int.fdiv alarm (4294967296 : Int)))) 0 (2 : Int)) 9 (IntKind.wrap IntKind.u32 alarm)) 5 x1.fst) 6 x1.snd)), (SV.rd ETy.u8 x0.mem), (SV.v (Value.int IntKind.u64 x0.time)), (SV.rd ETy.u8 x0.out), (SV.v (Value.bool x0.halted))])))))))
 (Tree.fork
 (Tree.triv)
 (Tree.fork
 (Tree.triv)
 (Tree.triv))))))
 (Tree.fork
 (Tree.fork
 (Tree.triv)
 (Tree.fork
 (Tree.fork
 (Tree.triv)
 (Tree.fork
 (Tree.triv)
 (Tree.fork
 (Tree.triv)
 (Tree.fork
 (Tree.triv)
 (Tree.fork
 (Tree.triv)
 (Tree.leaf (SV.agg [(SV.arr IntKind.u32 16 x0.core.regs), (SV.v (Value.int IntKind.u32 x0.core.pc)), (SV.arr IntKind.u32 12 (List.set (List.set (List.set (List.set (List.set x0.core.csr 10 (IntKind.wrap IntKind.u32 (Int.fdiv alarm (4294967296 : Int)))) 0 (2 : Int)) 9 (IntKind.wrap IntKind.u32 alarm)) 6 x1.snd) 5 x1.fst)), (SV.rd ETy.u8 x0.mem), (SV.v (Value.int IntKind.u64 x0.time)), (SV.rd ETy.u8 x0.out), (SV.v (Value.bool x0.halted))])))))))
 (Tree.fork
 (Tree.triv)
 (Tree.fork
 (Tree.triv)
 (Tree.fork
 (Tree.triv)
 (Tree.triv))))))
 (Tree.fork
 (Tree.triv)
 (Tree.fork
 (Tree.triv)
 (Tree.triv))))))
 (Tree.fork
 (Tree.triv)
 (Tree.triv))))))
 (Tree.fork
 (Tree.fork
 (Tree.fork
 (Tree.triv)
 (Tree.fork
 (Tree.triv)
 (Tree.fork
 (Tree.fork
 (Tree.triv)
 (Tree.fork
 (Tree.triv)
 (Tree.fork
 (Tree.triv)
 (Tree.fork
 (Tree.fork
 (Tree.triv)
 (Tree.fork
 (Tree.triv)
 (Tree.fork
 (Tree.triv)
 (Tree.fork
 (Tree.triv)
 (Tree.fork
 (Tree.triv)
 (Tree.leaf (SV.agg [(SV.arr IntKind.u32 16 x0.core.regs), (SV.v (Value.int IntKind.u32 x0.core.pc)), (SV.arr IntKind.u32 12 (List.set (List.set (List.set (List.set (List.set x0.core.csr 10 (IntKind.wrap IntKind.u32 (Int.fdiv alarm (4294967296 : Int)))) 5 x1.fst) 0 (2 : Int)) 6 x1.snd) 9 (IntKind.wrap IntKind.u32 alarm))), (SV.rd ETy.u8 x0.mem), (SV.v (Value.int IntKind.u64 x0.time)), (SV.rd ETy.u8 x0.out), (SV.v (Value.bool x0.halted))])))))))
 (Tree.fork
 (Tree.triv)
 (Tree.triv))))))
 (Tree.fork
 (Tree.fork
 (Tree.triv)
 (Tree.fork
 (Tree.triv)
 (Tree.fork
 (Tree.fork
 (Tree.triv)
 (Tree.fork
 (Tree.triv)
 (Tree.fork
 (Tree.triv)
 (Tree.fork
 (Tree.triv)
 (Tree.fork
 (Tree.triv)
 (Tree.leaf (SV.agg [(SV.arr IntKind.u32 16 x0.core.regs), (SV.v (Value.int IntKind.u32 x0.core.pc)), (SV.arr IntKind.u32 12 (List.set (List.set (List.set (List.set (List.set x0.core.csr 10 (IntKind.wrap IntKind.u32 (Int.fdiv alarm (4294967296 : Int)))) 5 x1.fst) 0 (2 : Int)) 9 (IntKind.wrap IntKind.u32 alarm)) 6 x1.snd)), (SV.rd ETy.u8 x0.mem), (SV.v (Value.int IntKind.u64 x0.time)), (SV.rd ETy.u8 x0.out), (SV.v (Value.bool x0.halted))])))))))
 (Tree.fork
 (Tree.triv)
 (Tree.fork
 (Tree.triv)
 (Tree.triv))))))
 (Tree.fork
 (Tree.triv)
 (Tree.triv))))))
 (Tree.fork
 (Tree.triv)
 (Tree.fork
 (Tree.fork
 (Tree.fork
 (Tree.triv)
 (Tree.fork
 (Tree.triv)
 (Tree.fork
 (Tree.triv)
 (Tree.fork
 (Tree.fork
 (Tree.triv)
 (Tree.fork
 (Tree.triv)
 (Tree.fork
 (Tree.triv)
 (Tree.fork
 (Tree.triv)
 (Tree.fork
 (Tree.triv)
 (Tree.leaf (SV.agg [(SV.arr IntKind.u32 16 x0.core.regs), (SV.v (Value.int IntKind.u32 x0.core.pc)), (SV.arr IntKind.u32 12 (List.set (List.set (List.set (List.set (List.set x0.core.csr 10 (IntKind.wrap IntKind.u32 (Int.fdiv alarm (4294967296 : Int)))) 5 x1.fst) 6 x1.snd) 0 (2 : Int)) 9 (IntKind.wrap IntKind.u32 alarm))), (SV.rd ETy.u8 x0.mem), (SV.v (Value.int IntKind.u64 x0.time)), (SV.rd ETy.u8 x0.out), (SV.v (Value.bool x0.halted))])))))))
 (Tree.fork
 (Tree.triv)
 (Tree.triv))))))
 (Tree.fork
 (Tree.triv)
 (Tree.fork
 (Tree.triv)
 (Tree.fork
 (Tree.fork
 (Tree.fork
 (Tree.triv)
 (Tree.fork
 (Tree.triv)
 (Tree.fork
 (Tree.triv)
 (Tree.fork
 (Tree.triv)
 (Tree.fork
 (Tree.triv)
 (Tree.leaf (SV.agg [(SV.arr IntKind.u32 16 x0.core.regs), (SV.v (Value.int IntKind.u32 x0.core.pc)), (SV.arr IntKind.u32 12 (List.set (List.set (List.set (List.set (List.set x0.core.csr 10 (IntKind.wrap IntKind.u32 (Int.fdiv alarm (4294967296 : Int)))) 5 x1.fst) 6 x1.snd) 9 (IntKind.wrap IntKind.u32 alarm)) 0 (2 : Int))), (SV.rd ETy.u8 x0.mem), (SV.v (Value.int IntKind.u64 x0.time)), (SV.rd ETy.u8 x0.out), (SV.v (Value.bool x0.halted))])))))))
 (Tree.fork
 (Tree.triv)
 (Tree.fork
 (Tree.triv)
 (Tree.fork
 (Tree.triv)
 (Tree.fork
 (Tree.triv)
 (Tree.triv))))))
 (Tree.fork
 (Tree.triv)
 (Tree.triv))))))
 (Tree.fork
 (Tree.fork
 (Tree.fork
 (Tree.triv)
 (Tree.fork
 (Tree.triv)
 (Tree.fork
 (Tree.fork
 (Tree.triv)
 (Tree.fork
 (Tree.triv)
 (Tree.fork
 (Tree.triv)
 (Tree.fork
 (Tree.triv)
 (Tree.fork
 (Tree.triv)
 (Tree.leaf (SV.agg [(SV.arr IntKind.u32 16 x0.core.regs), (SV.v (Value.int IntKind.u32 x0.core.pc)), (SV.arr IntKind.u32 12 (List.set (List.set (List.set (List.set (List.set x0.core.csr 10 (IntKind.wrap IntKind.u32 (Int.fdiv alarm (4294967296 : Int)))) 5 x1.fst) 9 (IntKind.wrap IntKind.u32 alarm)) 0 (2 : Int)) 6 x1.snd)), (SV.rd ETy.u8 x0.mem), (SV.v (Value.int IntKind.u64 x0.time)), (SV.rd ETy.u8 x0.out), (SV.v (Value.bool x0.halted))])))))))
 (Tree.fork
 (Tree.triv)
 (Tree.fork
 (Tree.triv)
 (Tree.triv))))))
 (Tree.fork
 (Tree.triv)
 (Tree.fork
 (Tree.fork
 (Tree.fork
 (Tree.triv)
 (Tree.fork
 (Tree.triv)
 (Tree.fork
 (Tree.triv)
 (Tree.fork
 (Tree.triv)
 (Tree.fork
 (Tree.triv)
 (Tree.leaf (SV.agg [(SV.arr IntKind.u32 16 x0.core.regs), (SV.v (Value.int IntKind.u32 x0.core.pc)), (SV.arr IntKind.u32 12 (List.set (List.set (List.set (List.set (List.set x0.core.csr 10 (IntKind.wrap IntKind.u32 (Int.fdiv alarm (4294967296 : Int)))) 5 x1.fst) 9 (IntKind.wrap IntKind.u32 alarm)) 6 x1.snd) 0 (2 : Int))), (SV.rd ETy.u8 x0.mem), (SV.v (Value.int IntKind.u64 x0.time)), (SV.rd ETy.u8 x0.out), (SV.v (Value.bool x0.halted))])))))))
 (Tree.fork
 (Tree.triv)
 (Tree.fork
 (Tree.triv)
 (Tree.fork
 (Tree.triv)
 (Tree.fork
 (Tree.triv)
 (Tree.triv))))))
 (Tree.fork
 (Tree.triv)
 (Tree.fork
 (Tree.triv)
 (Tree.triv))))))
 (Tree.fork
 (Tree.triv)
 (Tree.triv))))))
 (Tree.fork
 (Tree.fork
 (Tree.fork
 (Tree.triv)
 (Tree.fork
 (Tree.fork
 (Tree.triv)
 (Tree.fork
 (Tree.triv)
 (Tree.fork
 (Tree.triv)
 (Tree.fork
 (Tree.fork
 (Tree.triv)
 (Tree.fork
 (Tree.triv)
 (Tree.fork
 (Tree.triv)
 (Tree.fork
 (Tree.triv)
 (Tree.fork
 (Tree.triv)
 (Tree.leaf (SV.agg [(SV.arr IntKind.u32 16 x0.core.regs), (SV.v (Value.int IntKind.u32 x0.core.pc)), (SV.arr IntKind.u32 12 (List.set (List.set (List.set (List.set (List.set x0.core.csr 10 (IntKind.wrap IntKind.u32 (Int.fdiv alarm (4294967296 : Int)))) 6 x1.snd) 0 (2 : Int)) 5 x1.fst) 9 (IntKind.wrap IntKind.u32 alarm))), (SV.rd ETy.u8 x0.mem), (SV.v (Value.int IntKind.u64 x0.time)), (SV.rd ETy.u8 x0.out), (SV.v (Value.bool x0.halted))])))))))
 (Tree.fork
 (Tree.triv)
 (Tree.triv))))))
 (Tree.fork
 (Tree.triv)
 (Tree.fork
 (Tree.fork
 (Tree.triv)
 (Tree.fork
 (Tree.fork
 (Tree.triv)
 (Tree.fork
 (Tree.triv)
 (Tree.fork
 (Tree.triv)
 (Tree.fork
 (Tree.triv)
 (Tree.fork
 (Tree.triv)
 (Tree.leaf (SV.agg [(SV.arr IntKind.u32 16 x0.core.regs), (SV.v (Value.int IntKind.u32 x0.core.pc)), (SV.arr IntKind.u32 12 (List.set (List.set (List.set (List.set (List.set x0.core.csr 10 (IntKind.wrap IntKind.u32 (Int.fdiv alarm (4294967296 : Int)))) 6 x1.snd) 0 (2 : Int)) 9 (IntKind.wrap IntKind.u32 alarm)) 5 x1.fst)), (SV.rd ETy.u8 x0.mem), (SV.v (Value.int IntKind.u64 x0.time)), (SV.rd ETy.u8 x0.out), (SV.v (Value.bool x0.halted))])))))))
 (Tree.fork
 (Tree.triv)
 (Tree.fork
 (Tree.triv)
 (Tree.fork
 (Tree.triv)
 (Tree.triv))))))
 (Tree.fork
 (Tree.triv)
 (Tree.triv))))))
 (Tree.fork
 (Tree.fork
 (Tree.fork
 (Tree.triv)
 (Tree.fork
 (Tree.triv)
 (Tree.fork
 (Tree.triv)
 (Tree.fork
 (Tree.fork
 (Tree.triv)
 (Tree.fork
 (Tree.triv)
 (Tree.fork
 (Tree.triv)
 (Tree.fork
 (Tree.triv)
 (Tree.fork
 (Tree.triv)
 (Tree.leaf (SV.agg [(SV.arr IntKind.u32 16 x0.core.regs), (SV.v (Value.int IntKind.u32 x0.core.pc)), (SV.arr IntKind.u32 12 (List.set (List.set (List.set (List.set (List.set x0.core.csr 10 (IntKind.wrap IntKind.u32 (Int.fdiv alarm (4294967296 : Int)))) 6 x1.snd) 5 x1.fst) 0 (2 : Int)) 9 (IntKind.wrap IntKind.u32 alarm))), (SV.rd ETy.u8 x0.mem), (SV.v (Value.int IntKind.u64 x0.time)), (SV.rd ETy.u8 x0.out), (SV.v (Value.bool x0.halted))])))))))
 (Tree.fork
 (Tree.triv)
 (Tree.triv))))))
 (Tree.fork
 (Tree.triv)
 (Tree.fork
 (Tree.triv)
 (Tree.fork
 (Tree.fork
 (Tree.fork
 (Tree.triv)
 (Tree.fork
 (Tree.triv)
 (Tree.fork
 (Tree.triv)
 (Tree.fork
 (Tree.triv)
 (Tree.fork
 (Tree.triv)
 (Tree.leaf (SV.agg [(SV.arr IntKind.u32 16 x0.core.regs), (SV.v (Value.int IntKind.u32 x0.core.pc)), (SV.arr IntKind.u32 12 (List.set (List.set (List.set (List.set (List.set x0.core.csr 10 (IntKind.wrap IntKind.u32 (Int.fdiv alarm (4294967296 : Int)))) 6 x1.snd) 5 x1.fst) 9 (IntKind.wrap IntKind.u32 alarm)) 0 (2 : Int))), (SV.rd ETy.u8 x0.mem), (SV.v (Value.int IntKind.u64 x0.time)), (SV.rd ETy.u8 x0.out), (SV.v (Value.bool x0.halted))])))))))
 (Tree.fork
 (Tree.triv)
 (Tree.fork
 (Tree.triv)
 (Tree.fork
 (Tree.triv)
 (Tree.fork
 (Tree.triv)
 (Tree.triv))))))
 (Tree.fork
 (Tree.triv)
 (Tree.triv))))))
 (Tree.fork
 (Tree.triv)
 (Tree.fork
 (Tree.fork
 (Tree.fork
 (Tree.triv)
 (Tree.fork
 (Tree.fork
 (Tree.triv)
 (Tree.fork
 (Tree.triv)
 (Tree.fork
 (Tree.triv)
 (Tree.fork
 (Tree.triv)
 (Tree.fork
 (Tree.triv)
 (Tree.leaf (SV.agg [(SV.arr IntKind.u32 16 x0.core.regs), (SV.v (Value.int IntKind.u32 x0.core.pc)), (SV.arr IntKind.u32 12 (List.set (List.set (List.set (List.set (List.set x0.core.csr 10 (IntKind.wrap IntKind.u32 (Int.fdiv alarm (4294967296 : Int)))) 6 x1.snd) 9 (IntKind.wrap IntKind.u32 alarm)) 0 (2 : Int)) 5 x1.fst)), (SV.rd ETy.u8 x0.mem), (SV.v (Value.int IntKind.u64 x0.time)), (SV.rd ETy.u8 x0.out), (SV.v (Value.bool x0.halted))])))))))
 (Tree.fork
 (Tree.triv)
 (Tree.fork
 (Tree.triv)
 (Tree.fork
 (Tree.triv)
 (Tree.triv))))))
 (Tree.fork
 (Tree.fork
 (Tree.fork
 (Tree.triv)
 (Tree.fork
 (Tree.triv)
 (Tree.fork
 (Tree.triv)
 (Tree.fork
 (Tree.triv)
 (Tree.fork
 (Tree.triv)
 (Tree.leaf (SV.agg [(SV.arr IntKind.u32 16 x0.core.regs), (SV.v (Value.int IntKind.u32 x0.core.pc)), (SV.arr IntKind.u32 12 (List.set (List.set (List.set (List.set (List.set x0.core.csr 10 (IntKind.wrap IntKind.u32 (Int.fdiv alarm (4294967296 : Int)))) 6 x1.snd) 9 (IntKind.wrap IntKind.u32 alarm)) 5 x1.fst) 0 (2 : Int))), (SV.rd ETy.u8 x0.mem), (SV.v (Value.int IntKind.u64 x0.time)), (SV.rd ETy.u8 x0.out), (SV.v (Value.bool x0.halted))])))))))
 (Tree.fork
 (Tree.triv)
 (Tree.fork
 (Tree.triv)
 (Tree.fork
 (Tree.triv)
 (Tree.fork
 (Tree.triv)
 (Tree.triv))))))
 (Tree.fork
 (Tree.triv)
 (Tree.fork
 (Tree.triv)
 (Tree.fork
 (Tree.triv)
 (Tree.triv))))))
 (Tree.fork
 (Tree.triv)
 (Tree.triv))))))
 (Tree.fork
 (Tree.fork
 (Tree.fork
 (Tree.triv)
 (Tree.fork
 (Tree.fork
 (Tree.triv)
 (Tree.fork
 (Tree.triv)
 (Tree.fork
 (Tree.fork
 (Tree.triv)
 (Tree.fork
 (Tree.triv)
 (Tree.fork
 (Tree.triv)
 (Tree.fork
 (Tree.triv)
 (Tree.fork
 (Tree.triv)
 (Tree.leaf (SV.agg [(SV.arr IntKind.u32 16 x0.core.regs), (SV.v (Value.int IntKind.u32 x0.core.pc)), (SV.arr IntKind.u32 12 (List.set (List.set (List.set (List.set (List.set x0.core.csr 10 (IntKind.wrap IntKind.u32 (Int.fdiv alarm (4294967296 : Int)))) 9 (IntKind.wrap IntKind.u32 alarm)) 0 (2 : Int)) 5 x1.fst) 6 x1.snd)), (SV.rd ETy.u8 x0.mem), (SV.v (Value.int IntKind.u64 x0.time)), (SV.rd ETy.u8 x0.out), (SV.v (Value.bool x0.halted))])))))))
 (Tree.fork
 (Tree.triv)
 (Tree.fork
 (Tree.triv)
 (Tree.triv))))))
 (Tree.fork
 (Tree.fork
 (Tree.triv)
 (Tree.fork
 (Tree.fork
 (Tree.triv)
 (Tree.fork
 (Tree.triv)
 (Tree.fork
 (Tree.triv)
 (Tree.fork
 (Tree.triv)
 (Tree.fork
 (Tree.triv)
 (Tree.leaf (SV.agg [(SV.arr IntKind.u32 16 x0.core.regs), (SV.v (Value.int IntKind.u32 x0.core.pc)), (SV.arr IntKind.u32 12 (List.set (List.set (List.set (List.set (List.set x0.core.csr 10 (IntKind.wrap IntKind.u32 (Int.fdiv alarm (4294967296 : Int)))) 9 (IntKind.wrap IntKind.u32 alarm)) 0 (2 : Int)) 6 x1.snd) 5 x1.fst)), (SV.rd ETy.u8 x0.mem), (SV.v (Value.int IntKind.u64 x0.time)), (SV.rd ETy.u8 x0.out), (SV.v (Value.bool x0.halted))])))))))
 (Tree.fork
 (Tree.triv)
 (Tree.fork
 (Tree.triv)
 (Tree.fork
 (Tree.triv)
 (Tree.triv))))))
 (Tree.fork
 (Tree.triv)
 (Tree.fork
 (Tree.triv)
 (Tree.triv))))))
 (Tree.fork
 (Tree.fork
 (Tree.fork
 (Tree.triv)
 (Tree.fork
 (Tree.triv)
 (Tree.fork
 (Tree.fork
 (Tree.triv)
 (Tree.fork
 (Tree.triv)
 (Tree.fork
 (Tree.triv)
 (Tree.fork
 (Tree.triv)
 (Tree.fork
 (Tree.triv)
 (Tree.leaf (SV.agg [(SV.arr IntKind.u32 16 x0.core.regs), (SV.v (Value.int IntKind.u32 x0.core.pc)), (SV.arr IntKind.u32 12 (List.set (List.set (List.set (List.set (List.set x0.core.csr 10 (IntKind.wrap IntKind.u32 (Int.fdiv alarm (4294967296 : Int)))) 9 (IntKind.wrap IntKind.u32 alarm)) 5 x1.fst) 0 (2 : Int)) 6 x1.snd)), (SV.rd ETy.u8 x0.mem), (SV.v (Value.int IntKind.u64 x0.time)), (SV.rd ETy.u8 x0.out), (SV.v (Value.bool x0.halted))])))))))
 (Tree.fork
 (Tree.triv)
 (Tree.fork
 (Tree.triv)
 (Tree.triv))))))
 (Tree.fork
 (Tree.triv)
 (Tree.fork
 (Tree.fork
 (Tree.fork
 (Tree.triv)
 (Tree.fork
 (Tree.triv)
 (Tree.fork
 (Tree.triv)
 (Tree.fork
 (Tree.triv)
 (Tree.fork
 (Tree.triv)
 (Tree.leaf (SV.agg [(SV.arr IntKind.u32 16 x0.core.regs), (SV.v (Value.int IntKind.u32 x0.core.pc)), (SV.arr IntKind.u32 12 (List.set (List.set (List.set (List.set (List.set x0.core.csr 10 (IntKind.wrap IntKind.u32 (Int.fdiv alarm (4294967296 : Int)))) 9 (IntKind.wrap IntKind.u32 alarm)) 5 x1.fst) 6 x1.snd) 0 (2 : Int))), (SV.rd ETy.u8 x0.mem), (SV.v (Value.int IntKind.u64 x0.time)), (SV.rd ETy.u8 x0.out), (SV.v (Value.bool x0.halted))])))))))
 (Tree.fork
 (Tree.triv)
 (Tree.fork
 (Tree.triv)
 (Tree.fork
 (Tree.triv)
 (Tree.fork
 (Tree.triv)
 (Tree.triv))))))
 (Tree.fork
 (Tree.triv)
 (Tree.fork
 (Tree.triv)
 (Tree.triv))))))
 (Tree.fork
 (Tree.fork
 (Tree.fork
 (Tree.triv)
 (Tree.fork
 (Tree.fork
 (Tree.triv)
 (Tree.fork
 (Tree.triv)
 (Tree.fork
 (Tree.triv)
 (Tree.fork
 (Tree.triv)
 (Tree.fork
 (Tree.triv)
 (Tree.leaf (SV.agg [(SV.arr IntKind.u32 16 x0.core.regs), (SV.v (Value.int IntKind.u32 x0.core.pc)), (SV.arr IntKind.u32 12 (List.set (List.set (List.set (List.set (List.set x0.core.csr 10 (IntKind.wrap IntKind.u32 (Int.fdiv alarm (4294967296 : Int)))) 9 (IntKind.wrap IntKind.u32 alarm)) 6 x1.snd) 0 (2 : Int)) 5 x1.fst)), (SV.rd ETy.u8 x0.mem), (SV.v (Value.int IntKind.u64 x0.time)), (SV.rd ETy.u8 x0.out), (SV.v (Value.bool x0.halted))])))))))
 (Tree.fork
 (Tree.triv)
 (Tree.fork
 (Tree.triv)
 (Tree.fork
 (Tree.triv)
 (Tree.triv))))))
 (Tree.fork
 (Tree.fork
 (Tree.fork
 (Tree.triv)
 (Tree.fork
 (Tree.triv)
 (Tree.fork
 (Tree.triv)
 (Tree.fork
 (Tree.triv)
 (Tree.fork
 (Tree.triv)
 (Tree.leaf (SV.agg [(SV.arr IntKind.u32 16 x0.core.regs), (SV.v (Value.int IntKind.u32 x0.core.pc)), (SV.arr IntKind.u32 12 (List.set (List.set (List.set (List.set (List.set x0.core.csr 10 (IntKind.wrap IntKind.u32 (Int.fdiv alarm (4294967296 : Int)))) 9 (IntKind.wrap IntKind.u32 alarm)) 6 x1.snd) 5 x1.fst) 0 (2 : Int))), (SV.rd ETy.u8 x0.mem), (SV.v (Value.int IntKind.u64 x0.time)), (SV.rd ETy.u8 x0.out), (SV.v (Value.bool x0.halted))])))))))
 (Tree.fork
 (Tree.triv)
 (Tree.fork
 (Tree.triv)
 (Tree.fork
 (Tree.triv)
 (Tree.fork
 (Tree.triv)
 (Tree.triv))))))
 (Tree.fork
 (Tree.triv)
 (Tree.fork
 (Tree.triv)
 (Tree.fork
 (Tree.triv)
 (Tree.triv))))))
 (Tree.fork
 (Tree.triv)
 (Tree.fork
 (Tree.triv)
 (Tree.triv))))))
 (Tree.fork
 (Tree.triv)
 (Tree.triv))))))
 (Tree.triv))))))) := by kernel_rfl
section
attribute [local irreducible] evF evFL evFLs
theorem a_shadow_Dispatch (host : PMach) (v : PVcpu) (p : PPart) (alarm : Int) (ok_host : okMach host) (ok_v : okVcpu v) (ok_p : okPart p) (ok_alarm : okI .u64 alarm) : (evF E_shadow_Dispatch 60 32 (encArgs [.mach, .vcpu, .part, .i .u64] (host, v, p, alarm, ()))).ends fun out_ => decO [.mach] out_ = some (K.dispatch host v p alarm) := by
  rw [t_shadow_Dispatch, Tree.ends_holds]
  obtain ⟨a0, a1⟩ := okI_u64 ok_alarm
  have e1 : IntKind.u32.wrap alarm = alarm % 4294967296 := wrap32 _
  have e2 : IntKind.u32.wrap (alarm.fdiv 4294967296) = alarm / 4294967296 := by rw [wrap32, Int.fdiv_eq_ediv_of_nonneg _ (by omega)]; omega
  have key : K.dispatch host v p alarm = { core := { regs := (K.restore host v).core.regs, pc := (K.restore host v).core.pc, csr := K.letC (K.restore host v).core.csr (K.compose p v.core) alarm }, mem := (K.restore host v).mem, time := (K.restore host v).time, out := (K.restore host v).out, halted := (K.restore host v).halted } := rfl
  have hl : (K.restore host v).core.csr.length = 12 := ok_host.core.csr.1
  rw [key]
  clear key
  generalize K.restore host v = h at *
  generalize K.compose p v.core = x at *
  simp only [Tree.holds_loop, Tree.holds_fork, Tree.holds_next, if_true, Tree.holds_cond, Tree.holds_letv, Tree.holds_leaf, Tree.holds_fail, Tree.holds_triv, decO, decA, decTup, decMach, decCore, decTrap, decInstr, decPart, decGuest, decConf, decEvent, decVcpu, decStep, bytesS, boolS, eventsS, intsS, guestsS, vcpusS, rowS, castL, Option.bind_some, Option.map_some, Option.some.injEq, Nat.beq_refl, beq_self_eq_true, Bool.and_self, cond_true, cond_false, eq_self, e1, e2, K.letC]
  obtain ⟨c0, c1, c2, c3, c4, c5, c6, c7, c8, c9, c10, c11, hc⟩ := list12 hl
  rw [hc]
  simp only [List.set_cons_zero, List.set_cons_succ]
  repeat' (first | refine drop_ok ?_ | intro _ | with_reducible apply And.intro)
  all_goals first | trivial | rfl
  
theorem c_shadow_Dispatch : SpecOk EB 32 S_shadow_Dispatch := spec_sig ok_shadow_Dispatch (n := 60) fun ⟨host, v, p, alarm, ⟨⟩⟩ h hok => a_shadow_Dispatch host v p alarm (ok_mach (okSL_head hok)) (ok_vcpu (okSL_head (okSL_tail hok))) (ok_part (okSL_head (okSL_tail (okSL_tail hok)))) (ok_int (okSL_head (okSL_tail (okSL_tail (okSL_tail hok)))))
end

/-! fetch_TimerPending -/

def S_fetch_TimerPending : Spec := sig [.mach] [.b] (fun (m, _) => K.due m)
noncomputable def E_fetch_TimerPending : Env := EB.adds [(59, S_trap_InterruptsEnabled), (61, S_csr_TimerCompare)]

theorem ok_fetch_TimerPending : EnvOk E_fetch_TimerPending := okEB.adds (l := _) ⟨c_trap_InterruptsEnabled, c_csr_TimerCompare, trivial⟩

theorem t_fetch_TimerPending (m : PMach) : evF E_fetch_TimerPending 60 94 (encArgs [.mach] (m, ())) = 
 Tree.letv (okO [AT.b]) (K.ie m.core) fun x0 =>
 (bif x0 then
 (Tree.letv (okO [(AT.i IntKind.u64)]) (K.cmp m.core.csr) fun x1 =>
 (bif (decide (m.time ≥ x1)) then
 (Tree.leaf (SV.b true))
 else
 (Tree.leaf (SV.b false))))
 else
 (Tree.leaf (SV.b false))) := by kernel_rfl
section
attribute [local irreducible] evF evFL evFLs
theorem a_fetch_TimerPending (m : PMach) (ok_m : okMach m) : (evF E_fetch_TimerPending 60 94 (encArgs [.mach] (m, ()))).ends fun out_ => decO [.b] out_ = some (K.due m) := by
  rw [t_fetch_TimerPending, Tree.ends_holds]
  simp only [Tree.holds_loop, Tree.holds_fork, Tree.holds_next, if_true, Tree.holds_cond, Tree.holds_letv, Tree.holds_leaf, Tree.holds_fail, decO, decA, decTup, decMach, decCore, decTrap, decInstr, decPart, decGuest, decConf, decEvent, decVcpu, decStep, bytesS, boolS, eventsS, intsS, guestsS, vcpusS, rowS, castL, Option.bind_some, Option.map_some, Option.some.injEq, Nat.beq_refl, beq_self_eq_true, Bool.and_self, cond_true, cond_false, eq_self, beq_iff_eq, beq_eq_false_iff_ne, bne_iff_ne, bne_eq_false_iff_eq, ne_eq, decide_eq_true_eq, decide_eq_false_iff_not, ble_true, ble_false, inRange_iff, inRange_false, K.due]
  repeat' (first | refine drop_ok ?_ | intro _ | with_reducible apply And.intro)
  all_goals simp_all
  
theorem c_fetch_TimerPending : SpecOk EB 94 S_fetch_TimerPending := spec_sig ok_fetch_TimerPending (n := 60) fun ⟨m, ⟨⟩⟩ h hok => a_fetch_TimerPending m (ok_mach (okSL_head hok))
end

/-! step_end -/

def S_step_end : Spec := sig [.mach, .trap] [.mach, .trap] (fun (m, t, _) => K.endS m t)
noncomputable def E_step_end : Env := EB.adds [(117, S_trap_Enter)]

theorem ok_step_end : EnvOk E_step_end := okEB.adds (l := _) ⟨c_trap_Enter, trivial⟩

theorem t_step_end (m : PMach) (t : PTrap) : evF E_step_end 60 95 (encArgs [.mach, .trap] (m, t, ())) = 
 Tree.letv (okO [AT.core]) (K.enter m.core t) fun x0 =>
 (Tree.leaf (SV.tup [(SV.agg [(SV.arr IntKind.u32 16 x0.regs), (SV.v (Value.int IntKind.u32 x0.pc)), (SV.arr IntKind.u32 12 x0.csr), (SV.rd ETy.u8 m.mem), (SV.v (Value.int IntKind.u64 (IntKind.wrap IntKind.u64 (m.time + (1 : Int))))), (SV.rd ETy.u8 m.out), (SV.v (Value.bool m.halted))]), (SV.agg [(SV.v (Value.int IntKind.i64 t.cause)), (SV.v (Value.int IntKind.u32 t.tval))])])) := by kernel_rfl
section
attribute [local irreducible] evF evFL evFLs
theorem a_step_end (m : PMach) (t : PTrap) (ok_m : okMach m) (ok_t : okTrap t) : (evF E_step_end 60 95 (encArgs [.mach, .trap] (m, t, ()))).ends fun out_ => decO [.mach, .trap] out_ = some (K.endS m t) := by
  rw [t_step_end, Tree.ends_holds]
  simp only [Tree.holds_loop, Tree.holds_fork, Tree.holds_next, if_true, Tree.holds_cond, Tree.holds_letv, Tree.holds_leaf, Tree.holds_fail, decO, decA, decTup, decMach, decCore, decTrap, decInstr, decPart, decGuest, decConf, decEvent, decVcpu, decStep, bytesS, boolS, eventsS, intsS, guestsS, vcpusS, rowS, castL, Option.bind_some, Option.map_some, Option.some.injEq, Nat.beq_refl, beq_self_eq_true, Bool.and_self, cond_true, cond_false, eq_self, K.endS, wrap64]
  repeat' (first | refine drop_ok ?_ | intro _ | with_reducible apply And.intro)
  all_goals simp_all
  
theorem c_step_end : SpecOk EB 95 S_step_end := spec_sig ok_step_end (n := 60) fun ⟨m, t, ⟨⟩⟩ h hok => a_step_end m t (ok_mach (okSL_head hok)) (ok_trap (okSL_head (okSL_tail hok)))
end

/-! reloc_Translate -/

def S_reloc_Translate : Spec := sig [.i .u32, .i .u32, .i .u32, .i .u32, .i .i64] [.i .u32, .b] (fun (base, bound, size, a, n, _) => K.reloc base bound size a n) (pre := fun (base, bound, size, a, n, _) => decide (0 ≤ n ∧ n ≤ 1099511627776))
noncomputable def E_reloc_Translate : Env := EB.adds []

theorem ok_reloc_Translate : EnvOk E_reloc_Translate := okEB.adds (l := _) trivial

theorem t_reloc_Translate (base : Int) (bound : Int) (size : Int) (a : Int) (n : Int) : evF E_reloc_Translate 60 190 (encArgs [.i .u32, .i .u32, .i .u32, .i .u32, .i .i64] (base, bound, size, a, n, ())) = 
 bif (decide ((IntKind.wrap IntKind.u64 ((IntKind.wrap IntKind.u64 a) + (IntKind.wrap IntKind.u64 n))) > (IntKind.wrap IntKind.u64 bound))) then
 (Tree.leaf (SV.tup [(SV.v (Value.int IntKind.u32 (0 : Int))), (SV.b false)]))
 else
 (bif (decide ((IntKind.wrap IntKind.u64 ((IntKind.wrap IntKind.u64 base) + (IntKind.wrap IntKind.u64 ((IntKind.wrap IntKind.u64 a) + (IntKind.wrap IntKind.u64 n))))) > (IntKind.wrap IntKind.u64 size))) then
 (Tree.leaf (SV.tup [(SV.v (Value.int IntKind.u32 (0 : Int))), (SV.b false)]))
 else
 (Tree.leaf (SV.tup [(SV.v (Value.int IntKind.u32 (IntKind.wrap IntKind.u32 (base + a)))), (SV.b true)]))) := by kernel_rfl
section
attribute [local irreducible] evF evFL evFLs
theorem a_reloc_Translate (base : Int) (bound : Int) (size : Int) (a : Int) (n : Int) (hpre : 0 ≤ n ∧ n ≤ 1099511627776) (ok_base : okI .u32 base) (ok_bound : okI .u32 bound) (ok_size : okI .u32 size) (ok_a : okI .u32 a) (ok_n : okI .i64 n) : (evF E_reloc_Translate 60 190 (encArgs [.i .u32, .i .u32, .i .u32, .i .u32, .i .i64] (base, bound, size, a, n, ()))).ends fun out_ => decO [.i .u32, .b] out_ = some (K.reloc base bound size a n) := by
  rw [t_reloc_Translate, Tree.ends_holds]
  obtain ⟨a0, a1⟩ := okI_u32 ok_a
  obtain ⟨b0, b1⟩ := okI_u32 ok_base
  obtain ⟨c0, c1⟩ := okI_u32 ok_bound
  obtain ⟨d0, d1⟩ := okI_u32 ok_size
  have e1 : IntKind.u64.wrap a = a := by rw [wrap64]; omega
  have e2 : IntKind.u64.wrap n = n := by rw [wrap64]; omega
  have e3 : IntKind.u64.wrap size = size := by rw [wrap64]; omega
  have e4 : IntKind.u64.wrap (a + n) = a + n := by rw [wrap64]; omega
  have e5 : IntKind.u64.wrap base = base := by rw [wrap64]; omega
  have e6 : IntKind.u64.wrap bound = bound := by rw [wrap64]; omega
  have e7 : IntKind.u64.wrap (base + (a + n)) = base + (a + n) := by rw [wrap64]; omega
  simp only [Tree.holds_loop, Tree.holds_fork, Tree.holds_next, if_true, Tree.holds_cond, Tree.holds_letv, Tree.holds_leaf, Tree.holds_fail, decO, decA, decTup, decMach, decCore, decTrap, decInstr, decPart, decGuest, decConf, decEvent, decVcpu, decStep, bytesS, boolS, eventsS, intsS, guestsS, vcpusS, rowS, castL, Option.bind_some, Option.map_some, Option.some.injEq, Nat.beq_refl, beq_self_eq_true, Bool.and_self, cond_true, cond_false, eq_self, beq_iff_eq, beq_eq_false_iff_ne, bne_iff_ne, bne_eq_false_iff_eq, ne_eq, decide_eq_true_eq, decide_eq_false_iff_not, ble_true, ble_false, inRange_iff, inRange_false, K.reloc, e1, e2, e3, e4, e5, e6, e7]
  repeat' (first | refine drop_ok ?_ | intro _ | with_reducible apply And.intro)
  · rw [if_neg (by omega)]
  · rw [if_neg (by omega)]
  · rw [if_pos (by omega), show IntKind.u32.wrap (base + a) = base + a by rw [wrap32]; omega]
  
theorem c_reloc_Translate : SpecOk EB 190 S_reloc_Translate := spec_sig ok_reloc_Translate (n := 60) fun ⟨base, bound, size, a, n, ⟨⟩⟩ h hok => a_reloc_Translate base bound size a n (of_decide_eq_true h) (ok_int (okSL_head hok)) (ok_int (okSL_head (okSL_tail hok))) (ok_int (okSL_head (okSL_tail (okSL_tail hok)))) (ok_int (okSL_head (okSL_tail (okSL_tail (okSL_tail hok))))) (ok_int (okSL_head (okSL_tail (okSL_tail (okSL_tail (okSL_tail hok))))))
end

/-! reloc_TranslateCore -/

def S_reloc_TranslateCore : Spec := sig [.core, .i .u32, .i .u32, .i .i64] [.i .u32, .b] (fun (c, size, a, n, _) => K.trans c size a n) (pre := fun (c, size, a, n, _) => decide (0 ≤ n ∧ n ≤ 1099511627776))
noncomputable def E_reloc_TranslateCore : Env := EB.adds [(190, S_reloc_Translate)]

theorem ok_reloc_TranslateCore : EnvOk E_reloc_TranslateCore := okEB.adds (l := _) ⟨c_reloc_Translate, trivial⟩

theorem t_reloc_TranslateCore (c : PCore) (size : Int) (a : Int) (n : Int) : evF E_reloc_TranslateCore 60 177 (encArgs [.core, .i .u32, .i .u32, .i .i64] (c, size, a, n, ())) = 
 bif (bne (andI IntKind.u32 (List.getD c.csr 0 (0 : Int)) (1 : Int)) (0 : Int)) then
 (bif (decide (And ((0 : Int) ≤ n) (n ≤ (1099511627776 : Int)))) then
 (Tree.letv (okO [(AT.i IntKind.u32), AT.b]) (K.reloc (0 : Int) size size a n) fun x0 =>
 (bif x0.snd then
 (Tree.leaf (SV.tup [(SV.v (Value.int IntKind.u32 x0.fst)), (SV.b true)]))
 else
 (Tree.leaf (SV.tup [(SV.v (Value.int IntKind.u32 x0.fst)), (SV.b false)]))))
 else
 (Tree.fail))
 else
 (bif (decide (And ((0 : Int) ≤ n) (n ≤ (1099511627776 : Int)))) then
 (Tree.letv (okO [(AT.i IntKind.u32), AT.b]) (K.reloc (List.getD c.csr 5 (0 : Int)) (List.getD c.csr 6 (0 : Int)) size a n) fun x0 =>
 (bif x0.snd then
 (Tree.leaf (SV.tup [(SV.v (Value.int IntKind.u32 x0.fst)), (SV.b true)]))
 else
 (Tree.leaf (SV.tup [(SV.v (Value.int IntKind.u32 x0.fst)), (SV.b false)]))))
 else
 (Tree.fail)) := by kernel_rfl
section
attribute [local irreducible] evF evFL evFLs
theorem a_reloc_TranslateCore (c : PCore) (size : Int) (a : Int) (n : Int) (hpre : 0 ≤ n ∧ n ≤ 1099511627776) (ok_c : okCore c) (ok_size : okI .u32 size) (ok_a : okI .u32 a) (ok_n : okI .i64 n) : (evF E_reloc_TranslateCore 60 177 (encArgs [.core, .i .u32, .i .u32, .i .i64] (c, size, a, n, ()))).ends fun out_ => decO [.i .u32, .b] out_ = some (K.trans c size a n) := by
  rw [t_reloc_TranslateCore, Tree.ends_holds]
  obtain ⟨s0, s1⟩ := ok_c.csr.u32 (i := 0) (by omega)
  simp only [Tree.holds_loop, Tree.holds_fork, Tree.holds_next, if_true, Tree.holds_cond, Tree.holds_letv, Tree.holds_leaf, Tree.holds_fail, decO, decA, decTup, decMach, decCore, decTrap, decInstr, decPart, decGuest, decConf, decEvent, decVcpu, decStep, bytesS, boolS, eventsS, intsS, guestsS, vcpusS, rowS, castL, Option.bind_some, Option.map_some, Option.some.injEq, Nat.beq_refl, beq_self_eq_true, Bool.and_self, cond_true, cond_false, eq_self, beq_iff_eq, beq_eq_false_iff_ne, bne_iff_ne, bne_eq_false_iff_eq, ne_eq, decide_eq_true_eq, decide_eq_false_iff_not, ble_true, ble_false, inRange_iff, inRange_false, and_1 s0 s1]
  have h1 : ¬ c.csr.getD 0 0 % 2 = 0 → K.trans c size a n = K.reloc 0 size size a n := fun h => by unfold K.trans K.super; rw [if_pos (by simp only [beq_iff_eq]; omega)]
  have h2 : c.csr.getD 0 0 % 2 = 0 → K.trans c size a n = K.reloc (c.csr.getD 5 0) (c.csr.getD 6 0) size a n := fun h => by unfold K.trans K.super; rw [if_neg (by rw [h]; decide)]
  repeat' (first | refine drop_ok ?_ | intro _ | with_reducible apply And.intro)
  all_goals first | omega | (rename_i q; rw [← q]; first | rw [h1 (by assumption)] | rw [h2 (by assumption)])
  
theorem c_reloc_TranslateCore : SpecOk EB 177 S_reloc_TranslateCore := spec_sig ok_reloc_TranslateCore (n := 60) fun ⟨c, size, a, n, ⟨⟩⟩ h hok => a_reloc_TranslateCore c size a n (of_decide_eq_true h) (ok_core (okSL_head hok)) (ok_int (okSL_head (okSL_tail hok))) (ok_int (okSL_head (okSL_tail (okSL_tail hok)))) (ok_int (okSL_head (okSL_tail (okSL_tail (okSL_tail hok)))))
end

/-! fetch_Resolve -/

def S_fetch_Resolve : Spec := sig [.mach, .i .u32, .i .i64] [.i .u32, .trap] (fun (m, a, n, _) => K.cell m a n) (pre := fun (m, a, n, _) => decide (n = 1 ∨ n = 4))
noncomputable def E_fetch_Resolve : Env := EB_2.adds [(177, S_reloc_TranslateCore)]

theorem ok_fetch_Resolve : EnvOk E_fetch_Resolve := okEB_2.adds (l := _) ⟨(up_to_2 c_reloc_TranslateCore), trivial⟩

theorem t_fetch_Resolve (m : PMach) (a : Int) (n : Int) : evF E_fetch_Resolve 60 168 (encArgs [.mach, .i .u32, .i .i64] (m, a, n, ())) = 
 bif (bne (IntKind.wrap IntKind.u32 n) (0 : Int)) then
 (bif (bne (Int.tmod a (IntKind.wrap IntKind.u32 n)) (0 : Int)) then
 (Tree.leaf (SV.tup [(SV.v (Value.int IntKind.u32 (0 : Int))), (SV.agg [(SV.v (Value.int IntKind.i64 (4 : Int))), (SV.v (Value.int IntKind.u32 a))])]))
 else
 (bif (decide (And ((0 : Int) ≤ n) (n ≤ (1099511627776 : Int)))) then
 (Tree.letv (okO [(AT.i IntKind.u32), AT.b]) (K.trans m.core (IntKind.wrap IntKind.u32 (Int.ofNat (List.length m.mem))) a n) fun x0 =>
 (bif x0.snd then
 (Tree.leaf (SV.tup [(SV.v (Value.int IntKind.u32 x0.fst)), (SV.agg [(SV.v (Value.int IntKind.i64 (0 : Int))), (SV.v (Value.int IntKind.u32 (0 : Int)))])]))
 else
 (Tree.leaf (SV.tup [(SV.v (Value.int IntKind.u32 (0 : Int))), (SV.agg [(SV.v (Value.int IntKind.i64 (3 : Int))), (SV.v (Value.int IntKind.u32 a))])]))))
 else
 (Tree.fail)))
 else
 (Tree.fail) := by kernel_rfl
section
attribute [local irreducible] evF evFL evFLs
theorem a_fetch_Resolve (m : PMach) (a : Int) (n : Int) (hpre : n = 1 ∨ n = 4) (ok_m : okMach m) (ok_a : okI .u32 a) (ok_n : okI .i64 n) : (evF E_fetch_Resolve 60 168 (encArgs [.mach, .i .u32, .i .i64] (m, a, n, ()))).ends fun out_ => decO [.i .u32, .trap] out_ = some (K.cell m a n) := by
  rw [t_fetch_Resolve, Tree.ends_holds]
  obtain ⟨a0, a1⟩ := okI_u32 ok_a
  have hn : 1 ≤ n ∧ n ≤ 4 := by omega
  have e1 : IntKind.u32.wrap n = n := by rw [wrap32]; omega
  have e2 : Int.tmod a n = a % n := Int.tmod_eq_emod_of_nonneg a0
  have e3 : IntKind.u32.wrap (m.mem.length : Int) = (m.mem.length : Int) % 4294967296 := wrap32 _
  simp only [Tree.holds_loop, Tree.holds_fork, Tree.holds_next, if_true, Tree.holds_cond, Tree.holds_letv, Tree.holds_leaf, Tree.holds_fail, decO, decA, decTup, decMach, decCore, decTrap, decInstr, decPart, decGuest, decConf, decEvent, decVcpu, decStep, bytesS, boolS, eventsS, intsS, guestsS, vcpusS, rowS, castL, Option.bind_some, Option.map_some, Option.some.injEq, Nat.beq_refl, beq_self_eq_true, Bool.and_self, cond_true, cond_false, eq_self, beq_iff_eq, beq_eq_false_iff_ne, bne_iff_ne, bne_eq_false_iff_eq, ne_eq, decide_eq_true_eq, decide_eq_false_iff_not, ble_true, ble_false, inRange_iff, inRange_false, Int.ofNat_eq_natCast, e1, e2, e3, K.cell]
  repeat' (first | refine drop_ok ?_ | intro _ | with_reducible apply And.intro)
  all_goals first | omega | (simp_all; done)
  
theorem c_fetch_Resolve : SpecOk EB_2 168 S_fetch_Resolve := spec_sig ok_fetch_Resolve (n := 60) fun ⟨m, a, n, ⟨⟩⟩ h hok => a_fetch_Resolve m a n (of_decide_eq_true h) (ok_mach (okSL_head hok)) (ok_int (okSL_head (okSL_tail hok))) (ok_int (okSL_head (okSL_tail (okSL_tail hok))))
end

/-! mem_InRange -/

def S_mem_InRange : Spec := sig [.i .i64, .i .u32, .i .i64] [.b] (fun (size, a, n, _) => K.inR size a n) (pre := fun (size, a, n, _) => decide (0 ≤ n ∧ n ≤ 1099511627776 ∧ 0 ≤ size))
noncomputable def E_mem_InRange : Env := EB.adds []

theorem ok_mem_InRange : EnvOk E_mem_InRange := okEB.adds (l := _) trivial

theorem t_mem_InRange (size : Int) (a : Int) (n : Int) : evF E_mem_InRange 60 178 (encArgs [.i .i64, .i .u32, .i .i64] (size, a, n, ())) = 
 bif (decide ((IntKind.wrap IntKind.u64 ((IntKind.wrap IntKind.u64 a) + (IntKind.wrap IntKind.u64 n))) ≤ (IntKind.wrap IntKind.u64 size))) then
 (Tree.leaf (SV.b true))
 else
 (Tree.leaf (SV.b false)) := by kernel_rfl
section
attribute [local irreducible] evF evFL evFLs
theorem a_mem_InRange (size : Int) (a : Int) (n : Int) (hpre : 0 ≤ n ∧ n ≤ 1099511627776 ∧ 0 ≤ size) (ok_size : okI .i64 size) (ok_a : okI .u32 a) (ok_n : okI .i64 n) : (evF E_mem_InRange 60 178 (encArgs [.i .i64, .i .u32, .i .i64] (size, a, n, ()))).ends fun out_ => decO [.b] out_ = some (K.inR size a n) := by
  rw [t_mem_InRange, Tree.ends_holds]
  obtain ⟨a0, a1⟩ := okI_u32 ok_a
  obtain ⟨s0, s1⟩ := okI_i64 ok_size
  have e1 : IntKind.u64.wrap a = a := by rw [wrap64]; omega
  have e2 : IntKind.u64.wrap n = n := by rw [wrap64]; omega
  have e3 : IntKind.u64.wrap size = size := by rw [wrap64]; omega
  have e4 : IntKind.u64.wrap (a + n) = a + n := by rw [wrap64]; omega
  simp only [Tree.holds_loop, Tree.holds_fork, Tree.holds_next, if_true, Tree.holds_cond, Tree.holds_letv, Tree.holds_leaf, Tree.holds_fail, decO, decA, decTup, decMach, decCore, decTrap, decInstr, decPart, decGuest, decConf, decEvent, decVcpu, decStep, bytesS, boolS, eventsS, intsS, guestsS, vcpusS, rowS, castL, Option.bind_some, Option.map_some, Option.some.injEq, Nat.beq_refl, beq_self_eq_true, Bool.and_self, cond_true, cond_false, eq_self, beq_iff_eq, beq_eq_false_iff_ne, bne_iff_ne, bne_eq_false_iff_eq, ne_eq, decide_eq_true_eq, decide_eq_false_iff_not, ble_true, ble_false, inRange_iff, inRange_false, K.inR, e1, e2, e3, e4]
  repeat' (first | refine drop_ok ?_ | intro _ | with_reducible apply And.intro)
  all_goals simp_all
  
theorem c_mem_InRange : SpecOk EB 178 S_mem_InRange := spec_sig ok_mem_InRange (n := 60) fun ⟨size, a, n, ⟨⟩⟩ h hok => a_mem_InRange size a n (of_decide_eq_true h) (ok_int (okSL_head hok)) (ok_int (okSL_head (okSL_tail hok))) (ok_int (okSL_head (okSL_tail (okSL_tail hok))))
end

/-! mem_Load -/

def S_mem_Load : Spec := sig [.rd .u8, .i .u32, .i .i64] [.i .u32, .b] (fun (m, a, n, _) => if K.inR m.length a n = true then (K.ld m a n, true) else (0, false)) (pre := fun (m, a, n, _) => decide (n = 1 ∨ n = 4))
noncomputable def E_mem_Load : Env := EB.adds [(178, S_mem_InRange)]

theorem ok_mem_Load : EnvOk E_mem_Load := okEB.adds (l := _) ⟨c_mem_InRange, trivial⟩
theorem t1_c_mem_Load (m : List Int) (a : Int) : evF E_mem_Load 60 169 [.rd .u8 m, .v (.int .u32 a), .v (.int .i64 1)] = 
  bif (decide (And ((0 : Int) ≤ (1 : Int)) (And ((1 : Int) ≤ (1099511627776 : Int)) ((0 : Int) ≤ (Int.ofNat (List.length m)))))) then
    (Tree.letv (okO [AT.b]) (K.inR (Int.ofNat (List.length m)) a (1 : Int)) fun x0 =>
    (bif x0 then
      (bif (inRange (IntKind.wrap IntKind.i64 ((IntKind.wrap IntKind.i64 a) + (0 : Int))) (List.length m)) then
        (Tree.leaf (SV.tup [(SV.v (Value.int IntKind.u32 (orI IntKind.u32 (0 : Int) (IntKind.wrap IntKind.u32 ((IntKind.wrap IntKind.u32 (List.getD m (Int.toNat (IntKind.wrap IntKind.i64 ((IntKind.wrap IntKind.i64 a) + (0 : Int)))) (0 : Int))) * (1 : Int)))))), (SV.b true)]))
      else
        (Tree.fail))
    else
      (Tree.leaf (SV.tup [(SV.v (Value.int IntKind.u32 (0 : Int))), (SV.b false)]))))
  else
    (Tree.fail) := by kernel_rfl
theorem t4_c_mem_Load (m : List Int) (a : Int) : evF E_mem_Load 60 169 [.rd .u8 m, .v (.int .u32 a), .v (.int .i64 4)] = 
  bif (decide (And ((0 : Int) ≤ (4 : Int)) (And ((4 : Int) ≤ (1099511627776 : Int)) ((0 : Int) ≤ (Int.ofNat (List.length m)))))) then
    (Tree.letv (okO [AT.b]) (K.inR (Int.ofNat (List.length m)) a (4 : Int)) fun x0 =>
    (bif x0 then
      (bif (inRange (IntKind.wrap IntKind.i64 ((IntKind.wrap IntKind.i64 a) + (0 : Int))) (List.length m)) then
        (bif (inRange (IntKind.wrap IntKind.i64 ((IntKind.wrap IntKind.i64 a) + (1 : Int))) (List.length m)) then
          (bif (inRange (IntKind.wrap IntKind.i64 ((IntKind.wrap IntKind.i64 a) + (2 : Int))) (List.length m)) then
            (bif (inRange (IntKind.wrap IntKind.i64 ((IntKind.wrap IntKind.i64 a) + (3 : Int))) (List.length m)) then
              (Tree.leaf (SV.tup [(SV.v (Value.int IntKind.u32 (orI IntKind.u32 (orI IntKind.u32 (orI IntKind.u32 (orI IntKind.u32 (0 : Int) (IntKind.wrap IntKind.u32 ((IntKind.wrap IntKind.u32 (List.getD m (Int.toNat (IntKind.wrap IntKind.i64 ((IntKind.wrap IntKind.i64 a) + (0 : Int)))) (0 : Int))) * (1 : Int)))) (IntKind.wrap IntKind.u32 ((IntKind.wrap IntKind.u32 (List.getD m (Int.toNat (IntKind.wrap IntKind.i64 ((IntKind.wrap IntKind.i64 a) + (1 : Int)))) (0 : Int))) * (256 : Int)))) (IntKind.wrap IntKind.u32 ((IntKind.wrap IntKind.u32 (List.getD m (Int.toNat (IntKind.wrap IntKind.i64 ((IntKind.wrap IntKind.i64 a) + (2 : Int)))) (0 : Int))) * (65536 : Int)))) (IntKind.wrap IntKind.u32 ((IntKind.wrap IntKind.u32 (List.getD m (Int.toNat (IntKind.wrap IntKind.i64 ((IntKind.wrap IntKind.i64 a) + (3 : Int)))) (0 : Int))) * (16777216 : Int)))))), (SV.b true)]))
            else
              (Tree.fail))
          else
            (Tree.fail))
        else
          (Tree.fail))
      else
        (Tree.fail))
    else
      (Tree.leaf (SV.tup [(SV.v (Value.int IntKind.u32 (0 : Int))), (SV.b false)]))))
  else
    (Tree.fail) := by kernel_rfl
theorem a1_c_mem_Load (m : List Int) (a : Int) (ok_m : okBytes m) (ok_a : okI .u32 a) : (evF E_mem_Load 60 169 [.rd .u8 m, .v (.int .u32 a), .v (.int .i64 1)]).ends fun out_ => decO [.i .u32, .b] out_ = some (if K.inR m.length a 1 = true then (K.ld m a 1, true) else (0, false)) := by
  rw [t1_c_mem_Load, Tree.ends_holds]
  obtain ⟨a0, a1⟩ := okI_u32 ok_a
  have b0 := byte_at ok_m a.toNat
  have i0 : IntKind.i64.wrap (IntKind.i64.wrap a + 0) = a := by rw [wrapI64 (by rw [wrapI64 (by omega) (by omega)]; omega) (by rw [wrapI64 (by omega) (by omega)]; omega), wrapI64 (by omega) (by omega)]; omega
  have v0 : IntKind.u32.wrap (IntKind.u32.wrap (m.getD a.toNat 0) * 1) = m.getD a.toNat 0 := by rw [wrap32, wrap32]; omega
  simp only [Tree.holds_loop, Tree.holds_fork, Tree.holds_next, if_true, Tree.holds_cond, Tree.holds_letv, Tree.holds_leaf, Tree.holds_fail, decO, decA, decTup, decMach, decCore, decTrap, decInstr, decPart, decGuest, decConf, decEvent, decVcpu, decStep, bytesS, boolS, eventsS, intsS, guestsS, vcpusS, rowS, castL, Option.bind_some, Option.map_some, Option.some.injEq, Nat.beq_refl, beq_self_eq_true, Bool.and_self, cond_true, cond_false, eq_self, beq_iff_eq, beq_eq_false_iff_ne, bne_iff_ne, bne_eq_false_iff_eq, ne_eq, decide_eq_true_eq, decide_eq_false_iff_not, ble_true, ble_false, inRange_iff, inRange_false, Int.ofNat_eq_natCast, i0, v0, or_zero b0.1 b0.2]
  repeat' (first | refine drop_ok ?_ | intro _ | with_reducible apply And.intro)
  all_goals first | (rw [if_pos (by assumption)]; rfl) | (rw [if_neg (by simp_all)]) | omega | (simp_all [K.inR]; omega)
theorem a4_c_mem_Load (m : List Int) (a : Int) (ok_m : okBytes m) (ok_a : okI .u32 a) : (evF E_mem_Load 60 169 [.rd .u8 m, .v (.int .u32 a), .v (.int .i64 4)]).ends fun out_ => decO [.i .u32, .b] out_ = some (if K.inR m.length a 4 = true then (K.ld m a 4, true) else (0, false)) := by
  rw [t4_c_mem_Load, Tree.ends_holds]
  obtain ⟨a0, a1⟩ := okI_u32 ok_a
  have ew : IntKind.i64.wrap a = a := wrapI64 (by omega) (by omega)
  have i0 : IntKind.i64.wrap (a + 0) = a := by rw [wrapI64 (by omega) (by omega)]; omega
  have i1 : IntKind.i64.wrap (a + 1) = a + 1 := wrapI64 (by omega) (by omega)
  have i2 : IntKind.i64.wrap (a + 2) = a + 2 := wrapI64 (by omega) (by omega)
  have i3 : IntKind.i64.wrap (a + 3) = a + 3 := wrapI64 (by omega) (by omega)
  have n1 : (a + 1).toNat = a.toNat + 1 := by omega
  have n2 : (a + 2).toNat = a.toNat + 2 := by omega
  have n3 : (a + 3).toNat = a.toNat + 3 := by omega
  obtain ⟨p0, q0⟩ := byte_at ok_m a.toNat
  obtain ⟨p1, q1⟩ := byte_at ok_m (a.toNat + 1)
  obtain ⟨p2, q2⟩ := byte_at ok_m (a.toNat + 2)
  obtain ⟨p3, q3⟩ := byte_at ok_m (a.toNat + 3)
  simp only [Tree.holds_loop, Tree.holds_fork, Tree.holds_next, if_true, Tree.holds_cond, Tree.holds_letv, Tree.holds_leaf, Tree.holds_fail, decO, decA, decTup, decMach, decCore, decTrap, decInstr, decPart, decGuest, decConf, decEvent, decVcpu, decStep, bytesS, boolS, eventsS, intsS, guestsS, vcpusS, rowS, castL, Option.bind_some, Option.map_some, Option.some.injEq, Nat.beq_refl, beq_self_eq_true, Bool.and_self, cond_true, cond_false, eq_self, beq_iff_eq, beq_eq_false_iff_ne, bne_iff_ne, bne_eq_false_iff_eq, ne_eq, decide_eq_true_eq, decide_eq_false_iff_not, ble_true, ble_false, inRange_iff, inRange_false, Int.ofNat_eq_natCast, ew, i0, i1, i2, i3, n1, n2, n3, wrap32, ld4 p0 q0 p1 q1 p2 q2 p3 q3]
  repeat' (first | refine drop_ok ?_ | intro _ | with_reducible apply And.intro)
  all_goals first | (rw [if_pos (by assumption)]; rfl) | (rw [if_neg (by simp_all)]) | omega | (simp_all [K.inR]; omega)
theorem c_mem_Load : SpecOk EB 169 S_mem_Load := spec_sig ok_mem_Load (n := 60) fun ⟨m, a, n, ⟨⟩⟩ h hok => by
  have h := of_decide_eq_true h
  have o1 := ok_bytes (okSL_head hok)
  have o2 := ok_int (okSL_head (okSL_tail hok))
  rcases h with h | h
  · have h : n = 1 := h
    subst h; exact a1_c_mem_Load m a o1 o2
  · have h : n = 4 := h
    subst h; exact a4_c_mem_Load m a o1 o2


/-! fetch_Load -/

def S_fetch_Load : Spec := sig [.mach, .i .u32, .i .i64] [.i .u32, .trap] (fun (m, a, n, _) => K.load m a n) (pre := fun (m, a, n, _) => decide (n = 1 ∨ n = 4))
noncomputable def E_fetch_Load : Env := EB_2.adds [(168, S_fetch_Resolve), (169, S_mem_Load)]

theorem ok_fetch_Load : EnvOk E_fetch_Load := okEB_2.adds (l := _) ⟨c_fetch_Resolve, (up_to_2 c_mem_Load), trivial⟩

theorem t_fetch_Load (m : PMach) (a : Int) (n : Int) : evF E_fetch_Load 60 153 (encArgs [.mach, .i .u32, .i .i64] (m, a, n, ())) = 
 bif (decide (Or (n = (1 : Int)) (n = (4 : Int)))) then
 (Tree.letv (okO [(AT.i IntKind.u32), AT.trap]) (K.cell m a n) fun x0 =>
 (bif (Bool.not (Bool.and (BEq.beq x0.snd.cause (0 : Int)) (Bool.and (BEq.beq x0.snd.tval (0 : Int)) true))) then
 (Tree.leaf (SV.tup [(SV.v (Value.int IntKind.u32 (0 : Int))), (SV.agg [(SV.v (Value.int IntKind.i64 x0.snd.cause)), (SV.v (Value.int IntKind.u32 x0.snd.tval))])]))
 else
 (bif (decide (Or (n = (1 : Int)) (n = (4 : Int)))) then
 (Tree.letv (okO [(AT.i IntKind.u32), AT.b]) (if ((K.inR (Int.ofNat (List.length m.mem)) x0.fst n) = true) then ((K.ld m.mem x0.fst n), true) else ((0 : Int), false)) fun x1 =>
 (bif x1.snd then
 (Tree.leaf (SV.tup [(SV.v (Value.int IntKind.u32 x1.fst)), (SV.agg [(SV.v (Value.int IntKind.i64 (0 : Int))), (SV.v (Value.int IntKind.u32 (0 : Int)))])]))
 else
 (Tree.leaf (SV.tup [(SV.v (Value.int IntKind.u32 x1.fst)), (SV.agg [(SV.v (Value.int IntKind.i64 (0 : Int))), (SV.v (Value.int IntKind.u32 (0 : Int)))])]))))
 else
 (Tree.fail))))
 else
 (Tree.fail) := by kernel_rfl
section
attribute [local irreducible] evF evFL evFLs
theorem a_fetch_Load (m : PMach) (a : Int) (n : Int) (hpre : n = 1 ∨ n = 4) (ok_m : okMach m) (ok_a : okI .u32 a) (ok_n : okI .i64 n) : (evF E_fetch_Load 60 153 (encArgs [.mach, .i .u32, .i .i64] (m, a, n, ()))).ends fun out_ => decO [.i .u32, .trap] out_ = some (K.load m a n) := by
  rw [t_fetch_Load, Tree.ends_holds]
  obtain ⟨a0, a1⟩ := okI_u32 ok_a
  have hr := fun h => cell_range ok_m.core (a := a) (n := n) a0 (by omega) h
  simp only [Tree.holds_loop, Tree.holds_fork, Tree.holds_next, if_true, Tree.holds_cond, Tree.holds_letv, Tree.holds_leaf, Tree.holds_fail, decO, decA, decTup, decMach, decCore, decTrap, decInstr, decPart, decGuest, decConf, decEvent, decVcpu, decStep, bytesS, boolS, eventsS, intsS, guestsS, vcpusS, rowS, castL, Option.bind_some, Option.map_some, Option.some.injEq, Nat.beq_refl, beq_self_eq_true, Bool.and_self, cond_true, cond_false, eq_self, beq_iff_eq, beq_eq_false_iff_ne, bne_iff_ne, bne_eq_false_iff_eq, ne_eq, decide_eq_true_eq, decide_eq_false_iff_not, ble_true, ble_false, inRange_iff, inRange_false, Int.ofNat_eq_natCast, K.load]
  by_cases h : (K.cell m a n).2.cause = 0
  · have ht := cell_zero h
    have hi : K.inR m.mem.length (K.cell m a n).1 n = true := by have := hr h; simp only [K.inR, decide_eq_true_eq]; omega
    simp only [h, ht, hi, if_true]
    simp [hpre]
  · simp [h, hpre]
  
theorem c_fetch_Load : SpecOk EB_2 153 S_fetch_Load := spec_sig ok_fetch_Load (n := 60) fun ⟨m, a, n, ⟨⟩⟩ h hok => a_fetch_Load m a n (of_decide_eq_true h) (ok_mach (okSL_head hok)) (ok_int (okSL_head (okSL_tail hok))) (ok_int (okSL_head (okSL_tail (okSL_tail hok))))
end

/-! fetch_Fetch -/

def S_fetch_Fetch : Spec := sig [.mach] [.i .u32, .trap] (fun (m, _) => K.load m m.core.pc 4)
noncomputable def E_fetch_Fetch : Env := EB_2.adds [(153, S_fetch_Load)]

theorem ok_fetch_Fetch : EnvOk E_fetch_Fetch := okEB_2.adds (l := _) ⟨c_fetch_Load, trivial⟩

theorem t_fetch_Fetch (m : PMach) : evF E_fetch_Fetch 60 132 (encArgs [.mach] (m, ())) = 
 Tree.letv (okO [(AT.i IntKind.u32), AT.trap]) (K.load m m.core.pc (4 : Int)) fun x0 =>
 (Tree.leaf (SV.tup [(SV.v (Value.int IntKind.u32 x0.fst)), (SV.agg [(SV.v (Value.int IntKind.i64 x0.snd.cause)), (SV.v (Value.int IntKind.u32 x0.snd.tval))])])) := by kernel_rfl
section
attribute [local irreducible] evF evFL evFLs
theorem a_fetch_Fetch (m : PMach) (ok_m : okMach m) : (evF E_fetch_Fetch 60 132 (encArgs [.mach] (m, ()))).ends fun out_ => decO [.i .u32, .trap] out_ = some (K.load m m.core.pc 4) := by
  rw [t_fetch_Fetch, Tree.ends_holds]
  simp only [Tree.holds_loop, Tree.holds_fork, Tree.holds_next, if_true, Tree.holds_cond, Tree.holds_letv, Tree.holds_leaf, Tree.holds_fail, decO, decA, decTup, decMach, decCore, decTrap, decInstr, decPart, decGuest, decConf, decEvent, decVcpu, decStep, bytesS, boolS, eventsS, intsS, guestsS, vcpusS, rowS, castL, Option.bind_some, Option.map_some, Option.some.injEq, Nat.beq_refl, beq_self_eq_true, Bool.and_self, cond_true, cond_false, eq_self, beq_iff_eq, beq_eq_false_iff_ne, bne_iff_ne, bne_eq_false_iff_eq, ne_eq, decide_eq_true_eq, decide_eq_false_iff_not, ble_true, ble_false, inRange_iff, inRange_false]
  repeat' (first | refine drop_ok ?_ | intro _ | with_reducible apply And.intro)
  all_goals first | trivial | omega | (simp_all; done)
  
theorem c_fetch_Fetch : SpecOk EB_2 132 S_fetch_Fetch := spec_sig ok_fetch_Fetch (n := 60) fun ⟨m, ⟨⟩⟩ h hok => a_fetch_Fetch m (ok_mach (okSL_head hok))
end

/-! bits_low64 -/

def S_bits_low64 : Spec := sig [.i .u64, .i .i64] [.i .u64] (fun (w, n, _) => w % K.pow n) (pre := fun (w, n, _) => decide (0 ≤ n ∧ n ≤ 63))
noncomputable def E_bits_low64 : Env := EB.adds []

theorem ok_bits_low64 : EnvOk E_bits_low64 := okEB.adds (l := _) trivial

theorem t_bits_low64 (w : Int) (n : Int) : evF E_bits_low64 60 170 (encArgs [.i .u64, .i .i64] (w, n, ())) = 
 bif (decide ((0 : Int) ≤ (IntKind.wrap IntKind.u64 n))) then
 (Tree.leaf (SV.v (Value.int IntKind.u64 (andI IntKind.u64 w (IntKind.wrap IntKind.u64 ((IntKind.wrap IntKind.u64 ((1 : Int) * ((2 : Int) ^ (if ((Int.toNat (IntKind.wrap IntKind.u64 n)) ≤ 64) then (Int.toNat (IntKind.wrap IntKind.u64 n)) else 64)))) - (1 : Int)))))))
 else
 (Tree.fail) := by kernel_rfl
section
attribute [local irreducible] evF evFL evFLs
theorem a_bits_low64 (w : Int) (n : Int) (hpre : 0 ≤ n ∧ n ≤ 63) (ok_w : okI .u64 w) (ok_n : okI .i64 n) : (evF E_bits_low64 60 170 (encArgs [.i .u64, .i .i64] (w, n, ()))).ends fun out_ => decO [.i .u64] out_ = some (w % K.pow n) := by
  rw [t_bits_low64, Tree.ends_holds]
  obtain ⟨w0, w1⟩ := okI_u64 ok_w
  obtain ⟨n, rfl⟩ := Int.eq_ofNat_of_zero_le hpre.1
  have h63 := pow63 (j := n) (by omega)
  have hp := Nat.two_pow_pos n
  have e1 : IntKind.u64.wrap (n : Int) = (n : Int) := by rw [wrap64]; omega
  have e2 : (if n ≤ 64 then n else 64) = n := if_pos (by omega)
  have e3 : andI .u64 w (IntKind.u64.wrap (IntKind.u64.wrap (1 * 2 ^ (if n ≤ 64 then n else 64)) - 1)) = w % K.pow (n : Int) := by
    have : IntKind.u64.wrap (IntKind.u64.wrap (1 * 2 ^ (if n ≤ 64 then n else 64)) - 1) = ((2 ^ n - 1 : Nat) : Int) := by
      rw [e2, wrap64, wrap64, show (1 : Int) * 2 ^ n = ((2 ^ n : Nat) : Int) by simp]; omega
    rw [this, and_low64 n (by omega) w0 w1]; rfl
  simp only [Tree.holds_loop, Tree.holds_fork, Tree.holds_next, if_true, Tree.holds_cond, Tree.holds_letv, Tree.holds_leaf, Tree.holds_fail, decO, decA, decTup, decMach, decCore, decTrap, decInstr, decPart, decGuest, decConf, decEvent, decVcpu, decStep, bytesS, boolS, eventsS, intsS, guestsS, vcpusS, rowS, castL, Option.bind_some, Option.map_some, Option.some.injEq, Nat.beq_refl, beq_self_eq_true, Bool.and_self, cond_true, cond_false, eq_self, e1, Int.toNat_natCast, e3]
  simp
  
theorem c_bits_low64 : SpecOk EB 170 S_bits_low64 := spec_sig ok_bits_low64 (n := 60) fun ⟨w, n, ⟨⟩⟩ h hok => a_bits_low64 w n (of_decide_eq_true h) (ok_int (okSL_head hok)) (ok_int (okSL_head (okSL_tail hok)))
end

/-! bits_Extract -/

def S_bits_Extract : Spec := sig [.i .u32, .i .i64, .i .i64] [.i .u32] (fun (w, at_, n, _) => K.field w at_ n) (pre := fun (w, at_, n, _) => decide (0 ≤ at_ ∧ at_ ≤ 63 ∧ 0 ≤ n ∧ n ≤ 63))
noncomputable def E_bits_Extract : Env := EB.adds [(170, S_bits_low64)]

theorem ok_bits_Extract : EnvOk E_bits_Extract := okEB.adds (l := _) ⟨c_bits_low64, trivial⟩

theorem t_bits_Extract (w : Int) (at_ : Int) (n : Int) : evF E_bits_Extract 60 154 (encArgs [.i .u32, .i .i64, .i .i64] (w, at_, n, ())) = 
 bif (decide ((0 : Int) ≤ (IntKind.wrap IntKind.u64 at_))) then
 (bif (decide (And ((0 : Int) ≤ n) (n ≤ (63 : Int)))) then
 (Tree.letv (okO [(AT.i IntKind.u64)]) ((Int.fdiv (IntKind.wrap IntKind.u64 w) ((2 : Int) ^ (if ((Int.toNat (IntKind.wrap IntKind.u64 at_)) ≤ 64) then (Int.toNat (IntKind.wrap IntKind.u64 at_)) else 64))) % (K.pow n)) fun x0 =>
 (Tree.leaf (SV.v (Value.int IntKind.u32 (IntKind.wrap IntKind.u32 x0)))))
 else
 (Tree.fail))
 else
 (Tree.fail) := by kernel_rfl
section
attribute [local irreducible] evF evFL evFLs
theorem a_bits_Extract (w : Int) (at_ : Int) (n : Int) (hpre : 0 ≤ at_ ∧ at_ ≤ 63 ∧ 0 ≤ n ∧ n ≤ 63) (ok_w : okI .u32 w) (ok_at_ : okI .i64 at_) (ok_n : okI .i64 n) : (evF E_bits_Extract 60 154 (encArgs [.i .u32, .i .i64, .i .i64] (w, at_, n, ()))).ends fun out_ => decO [.i .u32] out_ = some (K.field w at_ n) := by
  rw [t_bits_Extract, Tree.ends_holds]
  obtain ⟨w0, w1⟩ := okI_u32 ok_w
  obtain ⟨at_, rfl⟩ := Int.eq_ofNat_of_zero_le hpre.1
  have p1 := K.pow_pos (at_ : Int)
  have p2 := K.pow_pos n
  have q1 : w / K.pow at_ ≤ w := Int.ediv_le_self _ w0
  have q0 : 0 ≤ w / K.pow at_ := Int.ediv_nonneg w0 (by omega)
  have q2 := Int.emod_nonneg (w / K.pow at_) (show K.pow n ≠ 0 by omega)
  have q3 : w / K.pow at_ % K.pow n ≤ w / K.pow at_ := emod_le q0 p2
  have e0 : IntKind.u64.wrap (at_ : Int) = (at_ : Int) := by rw [wrap64]; omega
  have e1 : IntKind.u64.wrap w = w := by rw [wrap64]; omega
  have e2 : Int.fdiv w (2 ^ (if at_ ≤ 64 then at_ else 64)) = w / K.pow at_ := by
    rw [if_pos (by omega), Int.fdiv_eq_ediv_of_nonneg _ (by exact Int.le_of_lt (Int.pow_pos (by omega)))]
    congr 1 <;> simp [K.pow]
  have e5 : IntKind.u32.wrap (w / K.pow at_ % K.pow n) = w / K.pow at_ % K.pow n := by rw [wrap32]; omega
  have e6 : decide (0 ≤ n ∧ n ≤ 63) = true := decide_eq_true ⟨hpre.2.2.1, hpre.2.2.2⟩
  simp only [Tree.holds_loop, Tree.holds_fork, Tree.holds_next, if_true, Tree.holds_cond, Tree.holds_letv, Tree.holds_leaf, Tree.holds_fail, decO, decA, decTup, decMach, decCore, decTrap, decInstr, decPart, decGuest, decConf, decEvent, decVcpu, decStep, bytesS, boolS, eventsS, intsS, guestsS, vcpusS, rowS, castL, Option.bind_some, Option.map_some, Option.some.injEq, Nat.beq_refl, beq_self_eq_true, Bool.and_self, cond_true, cond_false, eq_self, e0, e1, Int.toNat_natCast, e2, e5, e6, K.field]
  first | done | simp
  
theorem c_bits_Extract : SpecOk EB 154 S_bits_Extract := spec_sig ok_bits_Extract (n := 60) fun ⟨w, at_, n, ⟨⟩⟩ h hok => a_bits_Extract w at_ n (of_decide_eq_true h) (ok_int (okSL_head hok)) (ok_int (okSL_head (okSL_tail hok))) (ok_int (okSL_head (okSL_tail (okSL_tail hok))))
end

/-! isa_FormatOf -/

def S_isa_FormatOf : Spec := sig [.i .i64] [.i .i64] (fun (op, _) => K.form op)
noncomputable def E_isa_FormatOf : Env := EB_1.adds []

theorem ok_isa_FormatOf : EnvOk E_isa_FormatOf := okEB_1.adds (l := _) trivial

theorem t_isa_FormatOf (op : Int) : evF E_isa_FormatOf 60 149 (encArgs [.i .i64] (op, ())) = 
 bif (decide (op < (0 : Int))) then
 (Tree.leaf (SV.v (Value.int IntKind.i64 (0 : Int))))
 else
 (bif (decide (op ≥ (26 : Int))) then
 (Tree.leaf (SV.v (Value.int IntKind.i64 (0 : Int))))
 else
 (bif (inRange op 26) then
 (Tree.leaf (SV.v (Value.int IntKind.i64 (List.getD [(0 : Int), (1 : Int), (1 : Int), (1 : Int), (1 : Int), (1 : Int), (1 : Int), (1 : Int), (1 : Int), (2 : Int), (3 : Int), (2 : Int), (2 : Int), (2 : Int), (2 : Int), (2 : Int), (2 : Int), (2 : Int), (3 : Int), (2 : Int), (4 : Int), (5 : Int), (6 : Int), (4 : Int), (4 : Int), (7 : Int)] ((Int.toNat op)) (0 : Int)))))
 else
 (Tree.fail))) := by kernel_rfl
section
attribute [local irreducible] evF evFL evFLs
theorem a_isa_FormatOf (op : Int) (ok_op : okI .i64 op) : (evF E_isa_FormatOf 60 149 (encArgs [.i .i64] (op, ()))).ends fun out_ => decO [.i .i64] out_ = some (K.form op) := by
  rw [t_isa_FormatOf, Tree.ends_holds]
  simp only [Tree.holds_loop, Tree.holds_fork, Tree.holds_next, if_true, Tree.holds_cond, Tree.holds_letv, Tree.holds_leaf, Tree.holds_fail, decO, decA, decTup, decMach, decCore, decTrap, decInstr, decPart, decGuest, decConf, decEvent, decVcpu, decStep, bytesS, boolS, eventsS, intsS, guestsS, vcpusS, rowS, castL, Option.bind_some, Option.map_some, Option.some.injEq, Nat.beq_refl, beq_self_eq_true, Bool.and_self, cond_true, cond_false, eq_self, beq_iff_eq, beq_eq_false_iff_ne, bne_iff_ne, bne_eq_false_iff_eq, ne_eq, decide_eq_true_eq, decide_eq_false_iff_not, ble_true, ble_false, inRange_iff, inRange_false]
  have out : (op < 0 ∨ 26 ≤ op) → K.form op = 0 := fun h => by unfold K.form; (repeat' split) <;> first | rfl | omega
  have inn : 0 ≤ op → op < 26 → [0, 1, 1, 1, 1, 1, 1, 1, 1, 2, 3, 2, 2, 2, 2, 2, 2, 2, 3, 2, 4, 5, 6, 4, 4, 7].getD op.toNat (0 : Int) = K.form op := fun h0 h1 => by
    rcases op_cases op with ⟨m, rfl⟩ | ⟨m, rfl⟩ | rfl | rfl | rfl | rfl | rfl | rfl | rfl | rfl | rfl | rfl | rfl | rfl | rfl | rfl | rfl | rfl | rfl | rfl | rfl | rfl | rfl | rfl | rfl | rfl | rfl | rfl 
    · exact absurd h0 (by simp)
    · exact absurd h1 (by simp; omega)
    all_goals rfl
  repeat' (first | refine drop_ok ?_ | intro _ | with_reducible apply And.intro)
  all_goals first | (rw [out (by omega)]; done) | (rw [inn (by omega) (by omega)]; done) | omega
  
theorem c_isa_FormatOf : SpecOk EB_1 149 S_isa_FormatOf := spec_sig ok_isa_FormatOf (n := 60) fun ⟨op, ⟨⟩⟩ h hok => a_isa_FormatOf op (ok_int (okSL_head hok))
end

/-! bits_SignExtend -/

def S_bits_SignExtend : Spec := sig [.i .u32, .i .i64] [.i .i32] (fun (v, n, _) => K.sext v) (pre := fun (v, n, _) => decide (n = 18))
noncomputable def E_bits_SignExtend : Env := EB.adds []

theorem ok_bits_SignExtend : EnvOk E_bits_SignExtend := okEB.adds (l := _) trivial

theorem t_bits_SignExtend (v : Int) (n : Int) : evF E_bits_SignExtend 60 155 (encArgs [.i .u32, .i .i64] (v, n, ())) = 
 bif (decide ((0 : Int) ≤ (IntKind.wrap IntKind.u64 (IntKind.wrap IntKind.i64 ((32 : Int) - n))))) then
 (bif (decide ((0 : Int) ≤ (IntKind.wrap IntKind.u64 (IntKind.wrap IntKind.i64 ((32 : Int) - n))))) then
 (Tree.leaf (SV.v (Value.int IntKind.i32 (Int.fdiv (IntKind.wrap IntKind.i32 (IntKind.wrap IntKind.u32 (v * ((2 : Int) ^ (if ((Int.toNat (IntKind.wrap IntKind.u64 (IntKind.wrap IntKind.i64 ((32 : Int) - n)))) ≤ 32) then (Int.toNat (IntKind.wrap IntKind.u64 (IntKind.wrap IntKind.i64 ((32 : Int) - n)))) else 32))))) ((2 : Int) ^ (if ((Int.toNat (IntKind.wrap IntKind.u64 (IntKind.wrap IntKind.i64 ((32 : Int) - n)))) ≤ 32) then (Int.toNat (IntKind.wrap IntKind.u64 (IntKind.wrap IntKind.i64 ((32 : Int) - n)))) else 32))))))
 else
 (Tree.fail))
 else
 (Tree.fail) := by kernel_rfl
section
attribute [local irreducible] evF evFL evFLs
theorem a_bits_SignExtend (v : Int) (n : Int) (hpre : n = 18) (ok_v : okI .u32 v) (ok_n : okI .i64 n) : (evF E_bits_SignExtend 60 155 (encArgs [.i .u32, .i .i64] (v, n, ()))).ends fun out_ => decO [.i .i32] out_ = some (K.sext v) := by
  rw [t_bits_SignExtend, Tree.ends_holds]
  obtain ⟨v0, v1⟩ := okI_u32 ok_v
  subst hpre
  have e0 : IntKind.u64.wrap (IntKind.i64.wrap (32 - 18)) = 14 := by decide
  have e1 : (if (14 : Int).toNat ≤ 32 then (14 : Int).toNat else 32) = 14 := rfl
  have e2 : (IntKind.i32.wrap (IntKind.u32.wrap (v * 2 ^ 14))).fdiv (2 ^ 14) = K.sext v := by
    rw [Int.fdiv_eq_ediv_of_nonneg _ (by decide), wrap32]
    simp only [IntKind.wrap, IntKind.bits, IntKind.signed, Bool.true_and, decide_eq_true_eq, Nat.reduceSub, Int.reducePow, ge_iff_le]
    unfold K.sext
    (repeat' split) <;> omega
  simp only [Tree.holds_loop, Tree.holds_fork, Tree.holds_next, if_true, Tree.holds_cond, Tree.holds_letv, Tree.holds_leaf, Tree.holds_fail, decO, decA, decTup, decMach, decCore, decTrap, decInstr, decPart, decGuest, decConf, decEvent, decVcpu, decStep, bytesS, boolS, eventsS, intsS, guestsS, vcpusS, rowS, castL, Option.bind_some, Option.map_some, Option.some.injEq, Nat.beq_refl, beq_self_eq_true, Bool.and_self, cond_true, cond_false, eq_self, e0, e1, e2]
  decide
  
theorem c_bits_SignExtend : SpecOk EB 155 S_bits_SignExtend := spec_sig ok_bits_SignExtend (n := 60) fun ⟨v, n, ⟨⟩⟩ h hok => a_bits_SignExtend v n (of_decide_eq_true h) (ok_int (okSL_head hok)) (ok_int (okSL_head (okSL_tail hok)))
end

/-! bits_FitsSigned -/

def S_bits_FitsSigned : Spec := sig [.i .i32, .i .i64] [.b] (fun (v, n, _) => decide (-131072 ≤ v) && decide (v < 131072)) (pre := fun (v, n, _) => decide (n = 18))
noncomputable def E_bits_FitsSigned : Env := EB.adds [(155, S_bits_SignExtend)]

theorem ok_bits_FitsSigned : EnvOk E_bits_FitsSigned := okEB.adds (l := _) ⟨c_bits_SignExtend, trivial⟩

theorem t_bits_FitsSigned (v : Int) (n : Int) : evF E_bits_FitsSigned 60 179 (encArgs [.i .i32, .i .i64] (v, n, ())) = 
 bif (decide (n = (18 : Int))) then
 (Tree.letv (okO [(AT.i IntKind.i32)]) (K.sext (IntKind.wrap IntKind.u32 v)) fun x0 =>
 (bif (BEq.beq x0 v) then
 (Tree.leaf (SV.b true))
 else
 (Tree.leaf (SV.b false))))
 else
 (Tree.fail) := by kernel_rfl
section
attribute [local irreducible] evF evFL evFLs
theorem a_bits_FitsSigned (v : Int) (n : Int) (hpre : n = 18) (ok_v : okI .i32 v) (ok_n : okI .i64 n) : (evF E_bits_FitsSigned 60 179 (encArgs [.i .i32, .i .i64] (v, n, ()))).ends fun out_ => decO [.b] out_ = some (decide (-131072 ≤ v) && decide (v < 131072)) := by
  rw [t_bits_FitsSigned, Tree.ends_holds]
  obtain ⟨v0, v1⟩ := okI_i32 ok_v
  subst hpre
  simp only [Tree.holds_loop, Tree.holds_fork, Tree.holds_next, if_true, Tree.holds_cond, Tree.holds_letv, Tree.holds_leaf, Tree.holds_fail, decO, decA, decTup, decMach, decCore, decTrap, decInstr, decPart, decGuest, decConf, decEvent, decVcpu, decStep, bytesS, boolS, eventsS, intsS, guestsS, vcpusS, rowS, castL, Option.bind_some, Option.map_some, Option.some.injEq, Nat.beq_refl, beq_self_eq_true, Bool.and_self, cond_true, cond_false, eq_self, beq_iff_eq, beq_eq_false_iff_ne, bne_iff_ne, bne_eq_false_iff_eq, ne_eq, decide_eq_true_eq, decide_eq_false_iff_not, ble_true, ble_false, inRange_iff, inRange_false]
  have key : (K.sext (IntKind.u32.wrap v) = v) ↔ (-131072 ≤ v ∧ v < 131072) := by
    rw [wrap32]; unfold K.sext; split <;> omega
  simp only [key]
  repeat' (first | refine drop_ok ?_ | intro _ | with_reducible apply And.intro)
  all_goals simp_all
  
theorem c_bits_FitsSigned : SpecOk EB 179 S_bits_FitsSigned := spec_sig ok_bits_FitsSigned (n := 60) fun ⟨v, n, ⟨⟩⟩ h hok => a_bits_FitsSigned v n (of_decide_eq_true h) (ok_int (okSL_head hok)) (ok_int (okSL_head (okSL_tail hok)))
end

/-! isa_register -/

def S_isa_register : Spec := sig [.i .i64, .b] [.b] (fun (n, has, _) => K.regOk n has)
noncomputable def E_isa_register : Env := EB.adds []

theorem ok_isa_register : EnvOk E_isa_register := okEB.adds (l := _) trivial

theorem t_isa_register (n : Int) (has : Bool) : evF E_isa_register 60 180 (encArgs [.i .i64, .b] (n, has, ())) = 
 bif (BEq.beq n (0 : Int)) then
 (Tree.leaf (SV.b true))
 else
 (bif has then
 (bif (decide (n > (0 : Int))) then
 (bif (decide (n < (16 : Int))) then
 (Tree.leaf (SV.b true))
 else
 (Tree.leaf (SV.b false)))
 else
 (Tree.leaf (SV.b false)))
 else
 (Tree.leaf (SV.b false))) := by kernel_rfl
section
attribute [local irreducible] evF evFL evFLs
theorem a_isa_register (n : Int) (has : Bool) (ok_n : okI .i64 n) (ok_has : okS (encA (.b) has)) : (evF E_isa_register 60 180 (encArgs [.i .i64, .b] (n, has, ()))).ends fun out_ => decO [.b] out_ = some (K.regOk n has) := by
  rw [t_isa_register, Tree.ends_holds]
  simp only [Tree.holds_loop, Tree.holds_fork, Tree.holds_next, if_true, Tree.holds_cond, Tree.holds_letv, Tree.holds_leaf, Tree.holds_fail, decO, decA, decTup, decMach, decCore, decTrap, decInstr, decPart, decGuest, decConf, decEvent, decVcpu, decStep, bytesS, boolS, eventsS, intsS, guestsS, vcpusS, rowS, castL, Option.bind_some, Option.map_some, Option.some.injEq, Nat.beq_refl, beq_self_eq_true, Bool.and_self, cond_true, cond_false, eq_self, beq_iff_eq, beq_eq_false_iff_ne, bne_iff_ne, bne_eq_false_iff_eq, ne_eq, decide_eq_true_eq, decide_eq_false_iff_not, ble_true, ble_false, inRange_iff, inRange_false, K.regOk]
  repeat' (first | refine drop_ok ?_ | intro _ | with_reducible apply And.intro)
  all_goals (simp_all; try omega)
  
theorem c_isa_register : SpecOk EB 180 S_isa_register := spec_sig ok_isa_register (n := 60) fun ⟨n, has, ⟨⟩⟩ h hok => a_isa_register n has (ok_int (okSL_head hok)) (okSL_head (okSL_tail hok))
end

/-! isa_Valid -/

def S_isa_Valid : Spec := sig [.instr] [.b] (fun (i, _) => K.may i)
noncomputable def E_isa_Valid : Env := EB_0_1.adds [(149, S_isa_FormatOf), (179, S_bits_FitsSigned), (180, S_isa_register)]

theorem ok_isa_Valid : EnvOk E_isa_Valid := okEB_0_1.adds (l := _) ⟨(up_1_to_0_1 c_isa_FormatOf), (up_to_0_1 c_bits_FitsSigned), (up_to_0_1 c_isa_register), trivial⟩

theorem t_isa_Valid (i : PInstr) : evF E_isa_Valid 60 171 (encArgs [.instr] (i, ())) = 
 Tree.letv (okO [(AT.i IntKind.i64)]) (K.form i.op) fun x0 =>
 (bif (BEq.beq x0 (0 : Int)) then
 (Tree.leaf (SV.b false))
 else
 (bif (inRange x0 8) then
 (bif (BEq.beq x0 (0 : Int)) then
 (bif (BEq.beq i.imm (0 : Int)) then
 (Tree.letv (okO [AT.b]) (K.regOk i.rd false) fun x1 =>
 (bif x1 then
 (Tree.letv (okO [AT.b]) (K.regOk i.ra false) fun x2 =>
 (bif x2 then
 (Tree.letv (okO [AT.b]) (K.regOk i.rb false) fun x3 =>
 (bif x3 then
 (Tree.leaf (SV.b true))
 else
 (Tree.leaf (SV.b false))))
 else
 (Tree.leaf (SV.b false))))
 else
 (Tree.leaf (SV.b false))))
 else
 (Tree.leaf (SV.b false)))
 else
 (bif (BEq.beq x0 (1 : Int)) then
 (bif (BEq.beq i.imm (0 : Int)) then
 (Tree.letv (okO [AT.b]) (K.regOk i.rd true) fun x1 =>
 (bif x1 then
 (Tree.letv (okO [AT.b]) (K.regOk i.ra true) fun x2 =>
 (bif x2 then
 (Tree.letv (okO [AT.b]) (K.regOk i.rb true) fun x3 =>
 (bif x3 then
 (Tree.leaf (SV.b true))
 else
 (Tree.leaf (SV.b false))))
 else
 (Tree.leaf (SV.b false))))
 else
 (Tree.leaf (SV.b false))))
 else
 (Tree.leaf (SV.b false)))
 else
 (bif (BEq.beq x0 (2 : Int)) then
 (bif (BEq.beq i.imm (0 : Int)) then
 (Tree.letv (okO [AT.b]) (K.regOk i.rd true) fun x1 =>
 (bif x1 then
 (Tree.letv (okO [AT.b]) (K.regOk i.ra true) fun x2 =>
 (bif x2 then
 (Tree.letv (okO [AT.b]) (K.regOk i.rb false) fun x3 =>
 (bif x3 then
 (Tree.leaf (SV.b true))
 else
 (Tree.leaf (SV.b false))))
 else
 (Tree.leaf (SV.b false))))
 else
 (Tree.leaf (SV.b false))))
 else
 (Tree.letv (okO [AT.b]) (Bool.and (decide ((-131072 : Int) ≤ i.imm)) (decide (i.imm < (131072 : Int)))) fun x1 =>
 (bif x1 then
 (Tree.letv (okO [AT.b]) (K.regOk i.rd true) fun x2 =>
 (bif x2 then
 (Tree.letv (okO [AT.b]) (K.regOk i.ra true) fun x3 =>
 (bif x3 then
 (Tree.letv (okO [AT.b]) (K.regOk i.rb false) fun x4 =>
 (bif x4 then
 (Tree.leaf (SV.b true))
 else
 (Tree.leaf (SV.b false))))
 else
 (Tree.leaf (SV.b false))))
 else
 (Tree.leaf (SV.b false))))
 else
 (Tree.leaf (SV.b false)))))
 else
 (bif (BEq.beq x0 (3 : Int)) then
 (bif (BEq.beq i.imm (0 : Int)) then
 (Tree.letv (okO [AT.b]) (K.regOk i.rd true) fun x1 =>
 (bif x1 then
 (Tree.letv (okO [AT.b]) (K.regOk i.ra false) fun x2 =>
 (bif x2 then
 (Tree.letv (okO [AT.b]) (K.regOk i.rb false) fun x3 =>
 (bif x3 then
 (Tree.leaf (SV.b true))
 else
 (Tree.leaf (SV.b false))))
 else
 (Tree.leaf (SV.b false))))
 else
 (Tree.leaf (SV.b false))))
 else
 (Tree.letv (okO [AT.b]) (Bool.and (decide ((-131072 : Int) ≤ i.imm)) (decide (i.imm < (131072 : Int)))) fun x1 =>
 (bif x1 then
 (Tree.letv (okO [AT.b]) (K.regOk i.rd true) fun x2 =>
 (bif x2 then
 (Tree.letv (okO [AT.b]) (K.regOk i.ra false) fun x3 =>
 (bif x3 then
 (Tree.letv (okO [AT.b]) (K.regOk i.rb false) fun x4 =>
 (bif x4 then
 (Tree.leaf (SV.b true))
 else
 (Tree.leaf (SV.b false))))
 else
 (Tree.leaf (SV.b false))))
 else
 (Tree.leaf (SV.b false))))
 else
 (Tree.leaf (SV.b false)))))
 else
 (bif (BEq.beq x0 (4 : Int)) then
 (bif (BEq.beq i.imm (0 : Int)) then
 (Tree.letv (okO [AT.b]) (K.regOk i.rd false) fun x1 =>
 (bif x1 then
 (Tree.letv (okO [AT.b]) (K.regOk i.ra false) fun x2 =>
 (bif x2 then
 (Tree.letv (okO [AT.b]) (K.regOk i.rb false) fun x3 =>
 (bif x3 then
 (Tree.leaf (SV.b true))
 else
 (Tree.leaf (SV.b false))))
 else
 (Tree.leaf (SV.b false))))
 else
 (Tree.leaf (SV.b false))))
 else
 (Tree.leaf (SV.b false)))
 else
 (bif (BEq.beq x0 (5 : Int)) then
 (bif (BEq.beq i.imm (0 : Int)) then
 (Tree.letv (okO [AT.b]) (K.regOk i.rd true) fun x1 =>
 (bif x1 then
 (Tree.letv (okO [AT.b]) (K.regOk i.ra false) fun x2 =>
 (bif x2 then
 (Tree.letv (okO [AT.b]) (K.regOk i.rb false) fun x3 =>
 (bif x3 then
 (Tree.leaf (SV.b true))
 else
 (Tree.leaf (SV.b false))))
 else
 (Tree.leaf (SV.b false))))
 else
 (Tree.leaf (SV.b false))))
 else
 (bif (decide (i.imm > (0 : Int))) then
 (bif (decide (i.imm < (12 : Int))) then
 (Tree.letv (okO [AT.b]) (K.regOk i.rd true) fun x1 =>
 (bif x1 then
 (Tree.letv (okO [AT.b]) (K.regOk i.ra false) fun x2 =>
 (bif x2 then
 (Tree.letv (okO [AT.b]) (K.regOk i.rb false) fun x3 =>
 (bif x3 then
 (Tree.leaf (SV.b true))
 else
 (Tree.leaf (SV.b false))))
 else
 (Tree.leaf (SV.b false))))
 else
 (Tree.leaf (SV.b false))))
 else
 (Tree.leaf (SV.b false)))
 else
 (Tree.leaf (SV.b false))))
 else
 (bif (BEq.beq x0 (6 : Int)) then
 (bif (BEq.beq i.imm (0 : Int)) then
 (Tree.letv (okO [AT.b]) (K.regOk i.rd false) fun x1 =>
 (bif x1 then
 (Tree.letv (okO [AT.b]) (K.regOk i.ra true) fun x2 =>
 (bif x2 then
 (Tree.letv (okO [AT.b]) (K.regOk i.rb false) fun x3 =>
 (bif x3 then
 (Tree.leaf (SV.b true))
 else
 (Tree.leaf (SV.b false))))
 else
 (Tree.leaf (SV.b false))))
 else
 (Tree.leaf (SV.b false))))
 else
 (bif (decide (i.imm > (0 : Int))) then
 (bif (decide (i.imm < (12 : Int))) then
 (Tree.letv (okO [AT.b]) (K.regOk i.rd false) fun x1 =>
 (bif x1 then
 (Tree.letv (okO [AT.b]) (K.regOk i.ra true) fun x2 =>
 (bif x2 then
 (Tree.letv (okO [AT.b]) (K.regOk i.rb false) fun x3 =>
 (bif x3 then
 (Tree.leaf (SV.b true))
 else
 (Tree.leaf (SV.b false))))
 else
 (Tree.leaf (SV.b false))))
 else
 (Tree.leaf (SV.b false))))
 else
 (Tree.leaf (SV.b false)))
 else
 (Tree.leaf (SV.b false))))
 else
 (bif (BEq.beq x0 (7 : Int)) then
 (bif (BEq.beq i.imm (0 : Int)) then
 (Tree.letv (okO [AT.b]) (K.regOk i.rd false) fun x1 =>
 (bif x1 then
 (Tree.letv (okO [AT.b]) (K.regOk i.ra true) fun x2 =>
 (bif x2 then
 (Tree.letv (okO [AT.b]) (K.regOk i.rb false) fun x3 =>
 (bif x3 then
 (Tree.leaf (SV.b true))
 else
 (Tree.leaf (SV.b false))))
 else
 (Tree.leaf (SV.b false))))
 else
 (Tree.leaf (SV.b false))))
 else
 (Tree.leaf (SV.b false)))
 else
 (Tree.fail)))))))))
 else
 (Tree.fail))) := by kernel_rfl
section
attribute [local irreducible] evF evFL evFLs
theorem a_isa_Valid (i : PInstr) (ok_i : okInstr i) : (evF E_isa_Valid 60 171 (encArgs [.instr] (i, ()))).ends fun out_ => decO [.b] out_ = some (K.may i) := by
  rw [t_isa_Valid, Tree.ends_holds]
  simp only [Tree.holds_loop, Tree.holds_fork, Tree.holds_next, if_true, Tree.holds_cond, Tree.holds_letv, Tree.holds_leaf, Tree.holds_fail, decO, decA, decTup, decMach, decCore, decTrap, decInstr, decPart, decGuest, decConf, decEvent, decVcpu, decStep, bytesS, boolS, eventsS, intsS, guestsS, vcpusS, rowS, castL, Option.bind_some, Option.map_some, Option.some.injEq, Nat.beq_refl, beq_self_eq_true, Bool.and_self, cond_true, cond_false, eq_self, beq_iff_eq, beq_eq_false_iff_ne, bne_iff_ne, bne_eq_false_iff_eq, ne_eq, decide_eq_true_eq, decide_eq_false_iff_not, ble_true, ble_false, inRange_iff, inRange_false]
  unfold K.may
  have hf := form_range i.op
  dsimp only
  generalize K.form i.op = f at *
  clear ok_i
  rcases hf with rfl | rfl | rfl | rfl | rfl | rfl | rfl | rfl
  all_goals simp
  all_goals
    repeat' (first | refine drop_ok ?_ | intro _ | with_reducible apply And.intro)
    all_goals first | omega | (simp_all; done) | (simp_all; omega) | grind
  
theorem c_isa_Valid : SpecOk EB_0_1 171 S_isa_Valid := spec_sig ok_isa_Valid (n := 60) fun ⟨i, ⟨⟩⟩ h hok => a_isa_Valid i (ok_instr (okSL_head hok))
end

/-! bits_Insert -/

def S_bits_Insert : Spec := sig [.i .u32, .i .i64, .i .i64, .i .u32] [.i .u32] (fun (w, at_, n, v, _) => K.bput w at_ n v) (pre := fun (w, at_, n, v, _) => decide (0 ≤ at_ ∧ 0 ≤ n ∧ at_ + n ≤ 32))
noncomputable def E_bits_Insert : Env := EB.adds [(170, S_bits_low64)]

theorem ok_bits_Insert : EnvOk E_bits_Insert := okEB.adds (l := _) ⟨c_bits_low64, trivial⟩

theorem t_bits_Insert (w : Int) (at_ : Int) (n : Int) (v : Int) : evF E_bits_Insert 60 172 (encArgs [.i .u32, .i .i64, .i .i64, .i .u32] (w, at_, n, v, ())) = 
 bif (decide (And ((0 : Int) ≤ n) (n ≤ (63 : Int)))) then
 (Tree.letv (okO [(AT.i IntKind.u64)]) ((18446744073709551615 : Int) % (K.pow n)) fun x0 =>
 (bif (decide ((0 : Int) ≤ (IntKind.wrap IntKind.u64 at_))) then
 (bif (decide (And ((0 : Int) ≤ n) (n ≤ (63 : Int)))) then
 (Tree.letv (okO [(AT.i IntKind.u64)]) ((IntKind.wrap IntKind.u64 v) % (K.pow n)) fun x1 =>
 (bif (decide ((0 : Int) ≤ (IntKind.wrap IntKind.u64 at_))) then
 (Tree.leaf (SV.v (Value.int IntKind.u32 (orI IntKind.u32 (andNotI IntKind.u32 w (IntKind.wrap IntKind.u32 ((IntKind.wrap IntKind.u32 x0) * ((2 : Int) ^ (if ((Int.toNat (IntKind.wrap IntKind.u64 at_)) ≤ 32) then (Int.toNat (IntKind.wrap IntKind.u64 at_)) else 32))))) (IntKind.wrap IntKind.u32 ((IntKind.wrap IntKind.u32 x1) * ((2 : Int) ^ (if ((Int.toNat (IntKind.wrap IntKind.u64 at_)) ≤ 32) then (Int.toNat (IntKind.wrap IntKind.u64 at_)) else 32))))))))
 else
 (Tree.fail)))
 else
 (Tree.fail))
 else
 (Tree.fail)))
 else
 (Tree.fail) := by kernel_rfl
section
attribute [local irreducible] evF evFL evFLs
theorem a_bits_Insert (w : Int) (at_ : Int) (n : Int) (v : Int) (hpre : 0 ≤ at_ ∧ 0 ≤ n ∧ at_ + n ≤ 32) (ok_w : okI .u32 w) (ok_at_ : okI .i64 at_) (ok_n : okI .i64 n) (ok_v : okI .u32 v) : (evF E_bits_Insert 60 172 (encArgs [.i .u32, .i .i64, .i .i64, .i .u32] (w, at_, n, v, ()))).ends fun out_ => decO [.i .u32] out_ = some (K.bput w at_ n v) := by
  rw [t_bits_Insert, Tree.ends_holds]
  obtain ⟨w0, w1⟩ := okI_u32 ok_w
  obtain ⟨v0, v1⟩ := okI_u32 ok_v
  obtain ⟨w, rfl⟩ := Int.eq_ofNat_of_zero_le w0
  obtain ⟨v, rfl⟩ := Int.eq_ofNat_of_zero_le v0
  obtain ⟨a, rfl⟩ := Int.eq_ofNat_of_zero_le hpre.1
  obtain ⟨n, rfl⟩ := Int.eq_ofNat_of_zero_le hpre.2.1
  have pa := Nat.two_pow_pos a
  have pn := Nat.two_pow_pos n
  have ln := pow_le32 (i := n) (by omega)
  have e0 : IntKind.u64.wrap (a : Int) = (a : Int) := by rw [wrap64]; omega
  have e1 : IntKind.u64.wrap (v : Int) = (v : Int) := by rw [wrap64]; omega
  have e2 : (18446744073709551615 : Int) % K.pow (n : Int) = ((2 ^ n - 1 : Nat) : Int) := by
    have h1 : (18446744073709551615 : Int) % K.pow (n : Int) = ((18446744073709551615 % 2 ^ n : Nat) : Int) := by simp [K.pow]
    rw [h1]; congr 1
    have h2 : (2 : Nat) ^ 64 = 2 ^ (64 - n) * 2 ^ n := by rw [← Nat.pow_add]; congr 1; omega
    have h3 : 0 < 2 ^ (64 - n) := Nat.two_pow_pos _
    have h4 : (18446744073709551615 : Nat) = (2 ^ n - 1) + 2 ^ n * (2 ^ (64 - n) - 1) := by
      rw [Nat.mul_sub, Nat.mul_one, Nat.mul_comm (2 ^ n), ← h2]
      have : 2 ^ n ≤ 2 ^ (64 - n) * 2 ^ n := Nat.le_mul_of_pos_left _ h3
      omega
    rw [h4, Nat.add_mul_mod_self_left, Nat.mod_eq_of_lt (by omega)]
  have hm : (2 ^ n - 1) * 2 ^ a < 4294967296 := by
    have h1 : (2 ^ n - 1) * 2 ^ a < 2 ^ n * 2 ^ a := Nat.mul_lt_mul_of_pos_right (by omega) pa
    rw [← Nat.pow_add] at h1
    have h2 := pow_le32 (i := n + a) (by omega)
    omega
  have hs : v % 2 ^ n * 2 ^ a < 4294967296 := by
    have h1 : v % 2 ^ n * 2 ^ a ≤ (2 ^ n - 1) * 2 ^ a := Nat.mul_le_mul_right _ (by have := Nat.mod_lt v pn; omega)
    omega
  have e3 : ∀ x : Nat, x < 4294967296 → x * 2 ^ a < 4294967296 → IntKind.u32.wrap (IntKind.u32.wrap (x : Int) * 2 ^ (if a ≤ 32 then a else 32)) = ((x * 2 ^ a : Nat) : Int) := fun x hx h => by
    rw [if_pos (by omega), wrap32, wrap32, Int.emod_eq_of_lt (a := (x : Int)) (by omega) (by omega)]
    rw [show (x : Int) * 2 ^ a = ((x * 2 ^ a : Nat) : Int) by simp]
    omega
  have e4 : (v : Int) % K.pow (n : Int) = ((v % 2 ^ n : Nat) : Int) := by simp [K.pow]
  have e5 := e3 (2 ^ n - 1) (by omega) hm
  have e6 := e3 (v % 2 ^ n) (by have := Nat.mod_lt v pn; omega) hs
  have e7 : decide (0 ≤ (n : Int) ∧ (n : Int) ≤ 63) = true := decide_eq_true (by omega)
  have e8 := insert_nat (w := w) (a := a) (n := n) (v := v) (by omega) (by omega) (by omega)
  have e9 : orI .u32 (andNotI .u32 (w : Int) (((2 ^ n - 1) * 2 ^ a : Nat) : Int)) ((v % 2 ^ n * 2 ^ a : Nat) : Int) = K.bput (w : Int) (a : Int) (n : Int) (v : Int) := by
    have hle : w &&& (2 ^ n - 1) * 2 ^ a ≤ w := Nat.and_le_left
    rw [andNot32_nat (by omega) hm, or32_nat (by omega) hs, e8]; rfl
  simp only [Tree.holds_loop, Tree.holds_fork, Tree.holds_next, if_true, Tree.holds_cond, Tree.holds_letv, Tree.holds_leaf, Tree.holds_fail, decO, decA, decTup, decMach, decCore, decTrap, decInstr, decPart, decGuest, decConf, decEvent, decVcpu, decStep, bytesS, boolS, eventsS, intsS, guestsS, vcpusS, rowS, castL, Option.bind_some, Option.map_some, Option.some.injEq, Nat.beq_refl, beq_self_eq_true, Bool.and_self, cond_true, cond_false, eq_self, e0, e1, e2, e4, Int.toNat_natCast, e5, e6, e7, e9]
  simp
  
theorem c_bits_Insert : SpecOk EB 172 S_bits_Insert := spec_sig ok_bits_Insert (n := 60) fun ⟨w, at_, n, v, ⟨⟩⟩ h hok => a_bits_Insert w at_ n v (of_decide_eq_true h) (ok_int (okSL_head hok)) (ok_int (okSL_head (okSL_tail hok))) (ok_int (okSL_head (okSL_tail (okSL_tail hok)))) (ok_int (okSL_head (okSL_tail (okSL_tail (okSL_tail hok)))))
end

/-! bits_LowBits -/

def S_bits_LowBits : Spec := sig [.i .i32, .i .i64] [.i .u32] (fun (v, n, _) => v % 262144) (pre := fun (v, n, _) => decide (n = 18))
noncomputable def E_bits_LowBits : Env := EB.adds [(154, S_bits_Extract)]

theorem ok_bits_LowBits : EnvOk E_bits_LowBits := okEB.adds (l := _) ⟨c_bits_Extract, trivial⟩

theorem t_bits_LowBits (v : Int) (n : Int) : evF E_bits_LowBits 60 173 (encArgs [.i .i32, .i .i64] (v, n, ())) = 
 bif (decide (And ((0 : Int) ≤ (0 : Int)) (And ((0 : Int) ≤ (63 : Int)) (And ((0 : Int) ≤ n) (n ≤ (63 : Int)))))) then
 (Tree.letv (okO [(AT.i IntKind.u32)]) (K.field (IntKind.wrap IntKind.u32 v) (0 : Int) n) fun x0 =>
 (Tree.leaf (SV.v (Value.int IntKind.u32 x0))))
 else
 (Tree.fail) := by kernel_rfl
section
attribute [local irreducible] evF evFL evFLs
theorem a_bits_LowBits (v : Int) (n : Int) (hpre : n = 18) (ok_v : okI .i32 v) (ok_n : okI .i64 n) : (evF E_bits_LowBits 60 173 (encArgs [.i .i32, .i .i64] (v, n, ()))).ends fun out_ => decO [.i .u32] out_ = some (v % 262144) := by
  rw [t_bits_LowBits, Tree.ends_holds]
  obtain ⟨v0, v1⟩ := okI_i32 ok_v
  subst hpre
  simp only [Tree.holds_loop, Tree.holds_fork, Tree.holds_next, if_true, Tree.holds_cond, Tree.holds_letv, Tree.holds_leaf, Tree.holds_fail, decO, decA, decTup, decMach, decCore, decTrap, decInstr, decPart, decGuest, decConf, decEvent, decVcpu, decStep, bytesS, boolS, eventsS, intsS, guestsS, vcpusS, rowS, castL, Option.bind_some, Option.map_some, Option.some.injEq, Nat.beq_refl, beq_self_eq_true, Bool.and_self, cond_true, cond_false, eq_self, K.field, wrap32]
  have : (v % 4294967296) / K.pow 0 % K.pow 18 = v % 262144 := by simp [K.pow] <;> omega
  rw [this]; simp
  
theorem c_bits_LowBits : SpecOk EB 173 S_bits_LowBits := spec_sig ok_bits_LowBits (n := 60) fun ⟨v, n, ⟨⟩⟩ h hok => a_bits_LowBits v n (of_decide_eq_true h) (ok_int (okSL_head hok)) (ok_int (okSL_head (okSL_tail hok)))
end

/-! isa_Encode -/

def S_isa_Encode : Spec := sig [.instr] [.i .u32, .b] (fun (i, _) => K.encode i)
noncomputable def E_isa_Encode : Env := EB_0_1.adds [(171, S_isa_Valid), (172, S_bits_Insert), (173, S_bits_LowBits)]

theorem ok_isa_Encode : EnvOk E_isa_Encode := okEB_0_1.adds (l := _) ⟨c_isa_Valid, (up_to_0_1 c_bits_Insert), (up_to_0_1 c_bits_LowBits), trivial⟩

theorem t_isa_Encode (i : PInstr) : evF E_isa_Encode 60 156 (encArgs [.instr] (i, ())) = 
 Tree.letv (okO [AT.b]) (K.may i) fun x0 =>
 (bif x0 then
 (Tree.letv (okO [(AT.i IntKind.u32)]) (i.imm % (262144 : Int)) fun x1 =>
 (Tree.letv (okO [(AT.i IntKind.u32)]) (K.bput (orI IntKind.u32 x1 (IntKind.wrap IntKind.u32 i.rb)) (26 : Int) (6 : Int) (IntKind.wrap IntKind.u32 i.op)) fun x2 =>
 (Tree.letv (okO [(AT.i IntKind.u32)]) (K.bput x2 (22 : Int) (4 : Int) (IntKind.wrap IntKind.u32 i.rd)) fun x3 =>
 (Tree.letv (okO [(AT.i IntKind.u32)]) (K.bput x3 (18 : Int) (4 : Int) (IntKind.wrap IntKind.u32 i.ra)) fun x4 =>
 (Tree.leaf (SV.tup [(SV.v (Value.int IntKind.u32 x4)), (SV.b true)]))))))
 else
 (Tree.leaf (SV.tup [(SV.v (Value.int IntKind.u32 (0 : Int))), (SV.b false)]))) := by kernel_rfl
section
attribute [local irreducible] evF evFL evFLs
theorem a_isa_Encode (i : PInstr) (ok_i : okInstr i) : (evF E_isa_Encode 60 156 (encArgs [.instr] (i, ()))).ends fun out_ => decO [.i .u32, .b] out_ = some (K.encode i) := by
  rw [t_isa_Encode, Tree.ends_holds]
  have key : K.may i = true → K.bput (K.bput (K.bput (orI .u32 (i.imm % 262144) (i.rb % 4294967296)) 26 6 (i.op % 4294967296)) 22 4 (i.rd % 4294967296)) 18 4 (i.ra % 4294967296) = K.word i := fun h => by
    have m := K.may_of h
    obtain ⟨⟨a, b⟩, ⟨c, d⟩, ⟨e, f⟩, ⟨g, j⟩, ⟨k, l⟩, one, two⟩ := m
    have hl : orI .u32 (i.imm % 262144) (i.rb % 4294967296) = (if K.form i.op = 1 then i.rb else i.imm % 262144) := by
      split
      · rename_i h1
        rw [one h1]
        obtain ⟨n, hn⟩ := Int.eq_ofNat_of_zero_le g
        rw [hn, show (0 : Int) % 262144 = ((0 : Nat) : Int) from rfl, show (n : Int) % 4294967296 = (n : Int) by omega, or32_nat (by omega) (by omega), Nat.zero_or]
      · rename_i h1
        rw [two h1]
        obtain ⟨n, hn⟩ := Int.eq_ofNat_of_zero_le (show 0 ≤ i.imm % 262144 by omega)
        rw [hn, show (0 : Int) % 4294967296 = ((0 : Nat) : Int) from rfl, or32_nat (by omega) (by omega), Nat.or_zero]
    rw [hl]
    have hr : 0 ≤ (if K.form i.op = 1 then i.rb else i.imm % 262144) ∧ (if K.form i.op = 1 then i.rb else i.imm % 262144) < 262144 := by split <;> omega
    unfold K.word
    generalize (if K.form i.op = 1 then i.rb else i.imm % 262144) = z at *
    have b1 : ∀ x v : Int, K.bput x 26 6 v = ((67108864 * (64 * (x.toNat / 4294967296) + v.toNat % 64) + x.toNat % 67108864 : Nat) : Int) := fun _ _ => rfl
    have b2 : ∀ x v : Int, K.bput x 22 4 v = ((4194304 * (16 * (x.toNat / 67108864) + v.toNat % 16) + x.toNat % 4194304 : Nat) : Int) := fun _ _ => rfl
    have b3 : ∀ x v : Int, K.bput x 18 4 v = ((262144 * (16 * (x.toNat / 4194304) + v.toNat % 16) + x.toNat % 262144 : Nat) : Int) := fun _ _ => rfl
    rw [b1, b2, b3]
    omega
  simp only [Tree.holds_loop, Tree.holds_fork, Tree.holds_next, if_true, Tree.holds_cond, Tree.holds_letv, Tree.holds_leaf, Tree.holds_fail, decO, decA, decTup, decMach, decCore, decTrap, decInstr, decPart, decGuest, decConf, decEvent, decVcpu, decStep, bytesS, boolS, eventsS, intsS, guestsS, vcpusS, rowS, castL, Option.bind_some, Option.map_some, Option.some.injEq, Nat.beq_refl, beq_self_eq_true, Bool.and_self, cond_true, cond_false, eq_self, beq_iff_eq, beq_eq_false_iff_ne, bne_iff_ne, bne_eq_false_iff_eq, ne_eq, decide_eq_true_eq, decide_eq_false_iff_not, ble_true, ble_false, inRange_iff, inRange_false, wrap32]
  unfold K.encode
  repeat' (first | refine drop_ok ?_ | intro _ | with_reducible apply And.intro)
  · rename_i h; rw [key h, if_pos h]
  · rename_i h; rw [if_neg (by simp [h])]
  
theorem c_isa_Encode : SpecOk EB_0_1 156 S_isa_Encode := spec_sig ok_isa_Encode (n := 60) fun ⟨i, ⟨⟩⟩ h hok => a_isa_Encode i (ok_instr (okSL_head hok))
end

/-! isa_Decode -/

def S_isa_Decode : Spec := sig [.i .u32] [.instr, .b] (fun (w, _) => K.decode w)
noncomputable def E_isa_Decode : Env := EB_0_1.adds [(154, S_bits_Extract), (149, S_isa_FormatOf), (155, S_bits_SignExtend), (156, S_isa_Encode)]

theorem ok_isa_Decode : EnvOk E_isa_Decode := okEB_0_1.adds (l := _) ⟨(up_to_0_1 c_bits_Extract), (up_1_to_0_1 c_isa_FormatOf), (up_to_0_1 c_bits_SignExtend), c_isa_Encode, trivial⟩

theorem t_isa_Decode (w : Int) : evF E_isa_Decode 60 133 (encArgs [.i .u32] (w, ())) = 
 Tree.letv (okO [(AT.i IntKind.u32)]) (K.field w (26 : Int) (6 : Int)) fun x0 =>
 (Tree.letv (okO [(AT.i IntKind.u32)]) (K.field w (22 : Int) (4 : Int)) fun x1 =>
 (Tree.letv (okO [(AT.i IntKind.u32)]) (K.field w (18 : Int) (4 : Int)) fun x2 =>
 (Tree.letv (okO [(AT.i IntKind.i64)]) (K.form (IntKind.wrap IntKind.i64 x0)) fun x3 =>
 (bif (inRange x3 8) then
 (bif (BEq.beq x3 (0 : Int)) then
 (Tree.letv (okO [(AT.i IntKind.i32)]) (K.sext w) fun x4 =>
 (Tree.letv (okO [(AT.i IntKind.u32), AT.b]) (K.encode (PInstr.mk (IntKind.wrap IntKind.i64 x0) (IntKind.wrap IntKind.i64 x1) (IntKind.wrap IntKind.i64 x2) (0 : Int) x4)) fun x5 =>
 (bif x5.snd then
 (bif (bne x5.fst w) then
 (Tree.leaf (SV.tup [(SV.agg [(SV.v (Value.int IntKind.i64 (0 : Int))), (SV.v (Value.int IntKind.i64 (0 : Int))), (SV.v (Value.int IntKind.i64 (0 : Int))), (SV.v (Value.int IntKind.i64 (0 : Int))), (SV.v (Value.int IntKind.i32 (0 : Int)))]), (SV.b false)]))
 else
 (Tree.leaf (SV.tup [(SV.agg [(SV.v (Value.int IntKind.i64 (IntKind.wrap IntKind.i64 x0))), (SV.v (Value.int IntKind.i64 (IntKind.wrap IntKind.i64 x1))), (SV.v (Value.int IntKind.i64 (IntKind.wrap IntKind.i64 x2))), (SV.v (Value.int IntKind.i64 (0 : Int))), (SV.v (Value.int IntKind.i32 x4))]), (SV.b true)])))
 else
 (Tree.leaf (SV.tup [(SV.agg [(SV.v (Value.int IntKind.i64 (0 : Int))), (SV.v (Value.int IntKind.i64 (0 : Int))), (SV.v (Value.int IntKind.i64 (0 : Int))), (SV.v (Value.int IntKind.i64 (0 : Int))), (SV.v (Value.int IntKind.i32 (0 : Int)))]), (SV.b false)])))))
 else
 (bif (BEq.beq x3 (1 : Int)) then
 (Tree.letv (okO [(AT.i IntKind.u32)]) (K.field w (0 : Int) (4 : Int)) fun x4 =>
 (Tree.letv (okO [(AT.i IntKind.u32), AT.b]) (K.encode (PInstr.mk (IntKind.wrap IntKind.i64 x0) (IntKind.wrap IntKind.i64 x1) (IntKind.wrap IntKind.i64 x2) (IntKind.wrap IntKind.i64 x4) (0 : Int))) fun x5 =>
 (bif x5.snd then
 (bif (bne x5.fst w) then
 (Tree.leaf (SV.tup [(SV.agg [(SV.v (Value.int IntKind.i64 (0 : Int))), (SV.v (Value.int IntKind.i64 (0 : Int))), (SV.v (Value.int IntKind.i64 (0 : Int))), (SV.v (Value.int IntKind.i64 (0 : Int))), (SV.v (Value.int IntKind.i32 (0 : Int)))]), (SV.b false)]))
 else
 (Tree.leaf (SV.tup [(SV.agg [(SV.v (Value.int IntKind.i64 (IntKind.wrap IntKind.i64 x0))), (SV.v (Value.int IntKind.i64 (IntKind.wrap IntKind.i64 x1))), (SV.v (Value.int IntKind.i64 (IntKind.wrap IntKind.i64 x2))), (SV.v (Value.int IntKind.i64 (IntKind.wrap IntKind.i64 x4))), (SV.v (Value.int IntKind.i32 (0 : Int)))]), (SV.b true)])))
 else
 (Tree.leaf (SV.tup [(SV.agg [(SV.v (Value.int IntKind.i64 (0 : Int))), (SV.v (Value.int IntKind.i64 (0 : Int))), (SV.v (Value.int IntKind.i64 (0 : Int))), (SV.v (Value.int IntKind.i64 (0 : Int))), (SV.v (Value.int IntKind.i32 (0 : Int)))]), (SV.b false)])))))
 else
 (bif (BEq.beq x3 (2 : Int)) then
 (Tree.letv (okO [(AT.i IntKind.i32)]) (K.sext w) fun x4 =>
 (Tree.letv (okO [(AT.i IntKind.u32), AT.b]) (K.encode (PInstr.mk (IntKind.wrap IntKind.i64 x0) (IntKind.wrap IntKind.i64 x1) (IntKind.wrap IntKind.i64 x2) (0 : Int) x4)) fun x5 =>
 (bif x5.snd then
 (bif (bne x5.fst w) then
 (Tree.leaf (SV.tup [(SV.agg [(SV.v (Value.int IntKind.i64 (0 : Int))), (SV.v (Value.int IntKind.i64 (0 : Int))), (SV.v (Value.int IntKind.i64 (0 : Int))), (SV.v (Value.int IntKind.i64 (0 : Int))), (SV.v (Value.int IntKind.i32 (0 : Int)))]), (SV.b false)]))
 else
 (Tree.leaf (SV.tup [(SV.agg [(SV.v (Value.int IntKind.i64 (IntKind.wrap IntKind.i64 x0))), (SV.v (Value.int IntKind.i64 (IntKind.wrap IntKind.i64 x1))), (SV.v (Value.int IntKind.i64 (IntKind.wrap IntKind.i64 x2))), (SV.v (Value.int IntKind.i64 (0 : Int))), (SV.v (Value.int IntKind.i32 x4))]), (SV.b true)])))
 else
 (Tree.leaf (SV.tup [(SV.agg [(SV.v (Value.int IntKind.i64 (0 : Int))), (SV.v (Value.int IntKind.i64 (0 : Int))), (SV.v (Value.int IntKind.i64 (0 : Int))), (SV.v (Value.int IntKind.i64 (0 : Int))), (SV.v (Value.int IntKind.i32 (0 : Int)))]), (SV.b false)])))))
 else
 (bif (BEq.beq x3 (3 : Int)) then
 (Tree.letv (okO [(AT.i IntKind.i32)]) (K.sext w) fun x4 =>
 (Tree.letv (okO [(AT.i IntKind.u32), AT.b]) (K.encode (PInstr.mk (IntKind.wrap IntKind.i64 x0) (IntKind.wrap IntKind.i64 x1) (IntKind.wrap IntKind.i64 x2) (0 : Int) x4)) fun x5 =>
 (bif x5.snd then
 (bif (bne x5.fst w) then
 (Tree.leaf (SV.tup [(SV.agg [(SV.v (Value.int IntKind.i64 (0 : Int))), (SV.v (Value.int IntKind.i64 (0 : Int))), (SV.v (Value.int IntKind.i64 (0 : Int))), (SV.v (Value.int IntKind.i64 (0 : Int))), (SV.v (Value.int IntKind.i32 (0 : Int)))]), (SV.b false)]))
 else
 (Tree.leaf (SV.tup [(SV.agg [(SV.v (Value.int IntKind.i64 (IntKind.wrap IntKind.i64 x0))), (SV.v (Value.int IntKind.i64 (IntKind.wrap IntKind.i64 x1))), (SV.v (Value.int IntKind.i64 (IntKind.wrap IntKind.i64 x2))), (SV.v (Value.int IntKind.i64 (0 : Int))), (SV.v (Value.int IntKind.i32 x4))]), (SV.b true)])))
 else
 (Tree.leaf (SV.tup [(SV.agg [(SV.v (Value.int IntKind.i64 (0 : Int))), (SV.v (Value.int IntKind.i64 (0 : Int))), (SV.v (Value.int IntKind.i64 (0 : Int))), (SV.v (Value.int IntKind.i64 (0 : Int))), (SV.v (Value.int IntKind.i32 (0 : Int)))]), (SV.b false)])))))
 else
 (bif (BEq.beq x3 (4 : Int)) then
 (Tree.letv (okO [(AT.i IntKind.i32)]) (K.sext w) fun x4 =>
 (Tree.letv (okO [(AT.i IntKind.u32), AT.b]) (K.encode (PInstr.mk (IntKind.wrap IntKind.i64 x0) (IntKind.wrap IntKind.i64 x1) (IntKind.wrap IntKind.i64 x2) (0 : Int) x4)) fun x5 =>
 (bif x5.snd then
 (bif (bne x5.fst w) then
 (Tree.leaf (SV.tup [(SV.agg [(SV.v (Value.int IntKind.i64 (0 : Int))), (SV.v (Value.int IntKind.i64 (0 : Int))), (SV.v (Value.int IntKind.i64 (0 : Int))), (SV.v (Value.int IntKind.i64 (0 : Int))), (SV.v (Value.int IntKind.i32 (0 : Int)))]), (SV.b false)]))
 else
 (Tree.leaf (SV.tup [(SV.agg [(SV.v (Value.int IntKind.i64 (IntKind.wrap IntKind.i64 x0))), (SV.v (Value.int IntKind.i64 (IntKind.wrap IntKind.i64 x1))), (SV.v (Value.int IntKind.i64 (IntKind.wrap IntKind.i64 x2))), (SV.v (Value.int IntKind.i64 (0 : Int))), (SV.v (Value.int IntKind.i32 x4))]), (SV.b true)])))
 else
 (Tree.leaf (SV.tup [(SV.agg [(SV.v (Value.int IntKind.i64 (0 : Int))), (SV.v (Value.int IntKind.i64 (0 : Int))), (SV.v (Value.int IntKind.i64 (0 : Int))), (SV.v (Value.int IntKind.i64 (0 : Int))), (SV.v (Value.int IntKind.i32 (0 : Int)))]), (SV.b false)])))))
 else
 (bif (BEq.beq x3 (5 : Int)) then
 (Tree.letv (okO [(AT.i IntKind.i32)]) (K.sext w) fun x4 =>
 (Tree.letv (okO [(AT.i IntKind.u32), AT.b]) (K.encode (PInstr.mk (IntKind.wrap IntKind.i64 x0) (IntKind.wrap IntKind.i64 x1) (IntKind.wrap IntKind.i64 x2) (0 : Int) x4)) fun x5 =>
 (bif x5.snd then
 (bif (bne x5.fst w) then
 (Tree.leaf (SV.tup [(SV.agg [(SV.v (Value.int IntKind.i64 (0 : Int))), (SV.v (Value.int IntKind.i64 (0 : Int))), (SV.v (Value.int IntKind.i64 (0 : Int))), (SV.v (Value.int IntKind.i64 (0 : Int))), (SV.v (Value.int IntKind.i32 (0 : Int)))]), (SV.b false)]))
 else
 (Tree.leaf (SV.tup [(SV.agg [(SV.v (Value.int IntKind.i64 (IntKind.wrap IntKind.i64 x0))), (SV.v (Value.int IntKind.i64 (IntKind.wrap IntKind.i64 x1))), (SV.v (Value.int IntKind.i64 (IntKind.wrap IntKind.i64 x2))), (SV.v (Value.int IntKind.i64 (0 : Int))), (SV.v (Value.int IntKind.i32 x4))]), (SV.b true)])))
 else
 (Tree.leaf (SV.tup [(SV.agg [(SV.v (Value.int IntKind.i64 (0 : Int))), (SV.v (Value.int IntKind.i64 (0 : Int))), (SV.v (Value.int IntKind.i64 (0 : Int))), (SV.v (Value.int IntKind.i64 (0 : Int))), (SV.v (Value.int IntKind.i32 (0 : Int)))]), (SV.b false)])))))
 else
 (bif (BEq.beq x3 (6 : Int)) then
 (Tree.letv (okO [(AT.i IntKind.i32)]) (K.sext w) fun x4 =>
 (Tree.letv (okO [(AT.i IntKind.u32), AT.b]) (K.encode (PInstr.mk (IntKind.wrap IntKind.i64 x0) (IntKind.wrap IntKind.i64 x1) (IntKind.wrap IntKind.i64 x2) (0 : Int) x4)) fun x5 =>
 (bif x5.snd then
 (bif (bne x5.fst w) then
 (Tree.leaf (SV.tup [(SV.agg [(SV.v (Value.int IntKind.i64 (0 : Int))), (SV.v (Value.int IntKind.i64 (0 : Int))), (SV.v (Value.int IntKind.i64 (0 : Int))), (SV.v (Value.int IntKind.i64 (0 : Int))), (SV.v (Value.int IntKind.i32 (0 : Int)))]), (SV.b false)]))
 else
 (Tree.leaf (SV.tup [(SV.agg [(SV.v (Value.int IntKind.i64 (IntKind.wrap IntKind.i64 x0))), (SV.v (Value.int IntKind.i64 (IntKind.wrap IntKind.i64 x1))), (SV.v (Value.int IntKind.i64 (IntKind.wrap IntKind.i64 x2))), (SV.v (Value.int IntKind.i64 (0 : Int))), (SV.v (Value.int IntKind.i32 x4))]), (SV.b true)])))
 else
 (Tree.leaf (SV.tup [(SV.agg [(SV.v (Value.int IntKind.i64 (0 : Int))), (SV.v (Value.int IntKind.i64 (0 : Int))), (SV.v (Value.int IntKind.i64 (0 : Int))), (SV.v (Value.int IntKind.i64 (0 : Int))), (SV.v (Value.int IntKind.i32 (0 : Int)))]), (SV.b false)])))))
 else
 (bif (BEq.beq x3 (7 : Int)) then
 (Tree.letv (okO [(AT.i IntKind.i32)]) (K.sext w) fun x4 =>
 (Tree.letv (okO [(AT.i IntKind.u32), AT.b]) (K.encode (PInstr.mk (IntKind.wrap IntKind.i64 x0) (IntKind.wrap IntKind.i64 x1) (IntKind.wrap IntKind.i64 x2) (0 : Int) x4)) fun x5 =>
 (bif x5.snd then
 (bif (bne x5.fst w) then
 (Tree.leaf (SV.tup [(SV.agg [(SV.v (Value.int IntKind.i64 (0 : Int))), (SV.v (Value.int IntKind.i64 (0 : Int))), (SV.v (Value.int IntKind.i64 (0 : Int))), (SV.v (Value.int IntKind.i64 (0 : Int))), (SV.v (Value.int IntKind.i32 (0 : Int)))]), (SV.b false)]))
 else
 (Tree.leaf (SV.tup [(SV.agg [(SV.v (Value.int IntKind.i64 (IntKind.wrap IntKind.i64 x0))), (SV.v (Value.int IntKind.i64 (IntKind.wrap IntKind.i64 x1))), (SV.v (Value.int IntKind.i64 (IntKind.wrap IntKind.i64 x2))), (SV.v (Value.int IntKind.i64 (0 : Int))), (SV.v (Value.int IntKind.i32 x4))]), (SV.b true)])))
 else
 (Tree.leaf (SV.tup [(SV.agg [(SV.v (Value.int IntKind.i64 (0 : Int))), (SV.v (Value.int IntKind.i64 (0 : Int))), (SV.v (Value.int IntKind.i64 (0 : Int))), (SV.v (Value.int IntKind.i64 (0 : Int))), (SV.v (Value.int IntKind.i32 (0 : Int)))]), (SV.b false)])))))
 else
 (Tree.fail)))))))))
 else
 (Tree.fail))))) := by kernel_rfl
section
attribute [local irreducible] evF evFL evFLs
theorem a_isa_Decode (w : Int) (ok_w : okI .u32 w) : (evF E_isa_Decode 60 133 (encArgs [.i .u32] (w, ()))).ends fun out_ => decO [.instr, .b] out_ = some (K.decode w) := by
  rw [t_isa_Decode, Tree.ends_holds]
  obtain ⟨w0, w1⟩ := okI_u32 ok_w
  have f1 : K.field w 26 6 = w / 67108864 := by simp [K.field, K.pow]; omega
  have f2 : K.field w 22 4 = w / 4194304 % 16 := by simp [K.field, K.pow]
  have f3 : K.field w 18 4 = w / 262144 % 16 := by simp [K.field, K.pow]
  have f4 : K.field w 0 4 = w % 16 := by simp [K.field, K.pow]
  have i1 : IntKind.i64.wrap (w / 67108864) = w / 67108864 := wrapI64 (by omega) (by omega)
  have i2 : IntKind.i64.wrap (w / 4194304 % 16) = w / 4194304 % 16 := wrapI64 (by omega) (by omega)
  have i3 : IntKind.i64.wrap (w / 262144 % 16) = w / 262144 % 16 := wrapI64 (by omega) (by omega)
  have i4 : IntKind.i64.wrap (w % 16) = w % 16 := wrapI64 (by omega) (by omega)
  have hf := form_range (w / 67108864)
  have g1 : K.form (w / 67108864) = 1 → (⟨w / 67108864, w / 4194304 % 16, w / 262144 % 16, w % 16, 0⟩ : PInstr) = K.splitW w := fun h => by simp [K.splitW, h]
  have g2 : K.form (w / 67108864) ≠ 1 → (⟨w / 67108864, w / 4194304 % 16, w / 262144 % 16, 0, K.sext w⟩ : PInstr) = K.splitW w := fun h => by simp [K.splitW, h]
  have d1 : (K.encode (K.splitW w)).2 = true → (K.encode (K.splitW w)).1 = w → K.decode w = (K.splitW w, true) := fun h1 h2 => by
    unfold K.encode at h1 h2
    by_cases hm : K.may (K.splitW w) = true
    · rw [if_pos hm] at h2; unfold K.decode; rw [if_pos ⟨hm, h2⟩]
    · rw [if_neg hm] at h1; simp at h1
  have d2 : ¬ ((K.encode (K.splitW w)).2 = true ∧ (K.encode (K.splitW w)).1 = w) → K.decode w = (⟨0, 0, 0, 0, 0⟩, false) := fun h => by
    unfold K.encode at h
    unfold K.decode
    rw [if_neg]
    rintro ⟨h1, h2⟩
    rw [if_pos h1] at h; exact h ⟨rfl, h2⟩
  simp only [Tree.holds_loop, Tree.holds_fork, Tree.holds_next, if_true, Tree.holds_cond, Tree.holds_letv, Tree.holds_leaf, Tree.holds_fail, decO, decA, decTup, decMach, decCore, decTrap, decInstr, decPart, decGuest, decConf, decEvent, decVcpu, decStep, bytesS, boolS, eventsS, intsS, guestsS, vcpusS, rowS, castL, Option.bind_some, Option.map_some, Option.some.injEq, Nat.beq_refl, beq_self_eq_true, Bool.and_self, cond_true, cond_false, eq_self, beq_iff_eq, beq_eq_false_iff_ne, bne_iff_ne, bne_eq_false_iff_eq, ne_eq, decide_eq_true_eq, decide_eq_false_iff_not, ble_true, ble_false, inRange_iff, inRange_false, f1, f2, f3, f4, i1, i2, i3, i4]
  have fin : ∀ i, i = K.splitW w → (okO [AT.i IntKind.u32, AT.b] (K.encode i) → ((K.encode i).2 = true → (¬ (K.encode i).1 = w → ((⟨0, 0, 0, 0, 0⟩ : PInstr), false) = K.decode w) ∧ ((K.encode i).1 = w → (i, true) = K.decode w)) ∧ ((K.encode i).2 = false → ((⟨0, 0, 0, 0, 0⟩ : PInstr), false) = K.decode w)) := fun i hi _ => by
    subst hi
    exact ⟨fun a => ⟨fun b => (d2 fun c => b c.2).symm, fun b => (d1 a b).symm⟩, fun a => (d2 fun c => by rw [a] at c; exact absurd c.1 (by simp)).symm⟩
  clear d1 d2 f1 f2 f3 f4 i1 i2 i3 i4
  intro _ _ _ _
  generalize K.form (w / 67108864) = f at *
  rcases hf with rfl | rfl | rfl | rfl | rfl | rfl | rfl | rfl
  all_goals simp
  all_goals first | exact fun _ => by simpa using fin _ (g1 rfl) | exact fun _ => by simpa using fin _ (g2 (by decide)) | trace_state
  
theorem c_isa_Decode : SpecOk EB_0_1 133 S_isa_Decode := spec_sig ok_isa_Decode (n := 60) fun ⟨w, ⟨⟩⟩ h hok => a_isa_Decode w (ok_int (okSL_head hok))
end

/-! isa_IsPrivileged -/

def S_isa_IsPrivileged : Spec := sig [.i .i64] [.b] (fun (op, _) => K.privd op)
noncomputable def E_isa_IsPrivileged : Env := EB.adds []

theorem ok_isa_IsPrivileged : EnvOk E_isa_IsPrivileged := okEB.adds (l := _) trivial

theorem t_isa_IsPrivileged (op : Int) : evF E_isa_IsPrivileged 60 120 (encArgs [.i .i64] (op, ())) = 
 bif (decide (op ≥ (21 : Int))) then
 (bif (decide (op ≤ (25 : Int))) then
 (Tree.leaf (SV.b true))
 else
 (Tree.leaf (SV.b false)))
 else
 (Tree.leaf (SV.b false)) := by kernel_rfl
section
attribute [local irreducible] evF evFL evFLs
theorem a_isa_IsPrivileged (op : Int) (ok_op : okI .i64 op) : (evF E_isa_IsPrivileged 60 120 (encArgs [.i .i64] (op, ()))).ends fun out_ => decO [.b] out_ = some (K.privd op) := by
  rw [t_isa_IsPrivileged, Tree.ends_holds]
  simp only [Tree.holds_loop, Tree.holds_fork, Tree.holds_next, if_true, Tree.holds_cond, Tree.holds_letv, Tree.holds_leaf, Tree.holds_fail, decO, decA, decTup, decMach, decCore, decTrap, decInstr, decPart, decGuest, decConf, decEvent, decVcpu, decStep, bytesS, boolS, eventsS, intsS, guestsS, vcpusS, rowS, castL, Option.bind_some, Option.map_some, Option.some.injEq, Nat.beq_refl, beq_self_eq_true, Bool.and_self, cond_true, cond_false, eq_self, beq_iff_eq, beq_eq_false_iff_ne, bne_iff_ne, bne_eq_false_iff_eq, ne_eq, decide_eq_true_eq, decide_eq_false_iff_not, ble_true, ble_false, inRange_iff, inRange_false, K.privd]
  repeat' (first | refine drop_ok ?_ | intro _ | with_reducible apply And.intro)
  all_goals (simp_all; try omega)
  
theorem c_isa_IsPrivileged : SpecOk EB 120 S_isa_IsPrivileged := spec_sig ok_isa_IsPrivileged (n := 60) fun ⟨op, ⟨⟩⟩ h hok => a_isa_IsPrivileged op (ok_int (okSL_head hok))
end

/-! trap_IsSupervisor -/

def S_trap_IsSupervisor : Spec := sig [.core] [.b] (fun (c, _) => K.super c)
noncomputable def E_trap_IsSupervisor : Env := EB.adds []

theorem ok_trap_IsSupervisor : EnvOk E_trap_IsSupervisor := okEB.adds (l := _) trivial

theorem t_trap_IsSupervisor (c : PCore) : evF E_trap_IsSupervisor 60 124 (encArgs [.core] (c, ())) = 
 bif (bne (andI IntKind.u32 (List.getD c.csr 0 (0 : Int)) (1 : Int)) (0 : Int)) then
 (Tree.leaf (SV.b true))
 else
 (Tree.leaf (SV.b false)) := by kernel_rfl
section
attribute [local irreducible] evF evFL evFLs
theorem a_trap_IsSupervisor (c : PCore) (ok_c : okCore c) : (evF E_trap_IsSupervisor 60 124 (encArgs [.core] (c, ()))).ends fun out_ => decO [.b] out_ = some (K.super c) := by
  rw [t_trap_IsSupervisor, Tree.ends_holds]
  obtain ⟨s0, s1⟩ := ok_c.csr.u32 (i := 0) (by omega)
  simp only [Tree.holds_loop, Tree.holds_fork, Tree.holds_next, if_true, Tree.holds_cond, Tree.holds_letv, Tree.holds_leaf, Tree.holds_fail, decO, decA, decTup, decMach, decCore, decTrap, decInstr, decPart, decGuest, decConf, decEvent, decVcpu, decStep, bytesS, boolS, eventsS, intsS, guestsS, vcpusS, rowS, castL, Option.bind_some, Option.map_some, Option.some.injEq, Nat.beq_refl, beq_self_eq_true, Bool.and_self, cond_true, cond_false, eq_self, beq_iff_eq, beq_eq_false_iff_ne, bne_iff_ne, bne_eq_false_iff_eq, ne_eq, decide_eq_true_eq, decide_eq_false_iff_not, ble_true, ble_false, inRange_iff, inRange_false, K.super, and_1 s0 s1]
  repeat' (first | refine drop_ok ?_ | intro _ | with_reducible apply And.intro)
  all_goals (simp_all; try omega)
  
theorem c_trap_IsSupervisor : SpecOk EB 124 S_trap_IsSupervisor := spec_sig ok_trap_IsSupervisor (n := 60) fun ⟨c, ⟨⟩⟩ h hok => a_trap_IsSupervisor c (ok_core (okSL_head hok))
end

/-! step_Current -/

def S_step_Current : Spec := sig [.mach] [.instr, .trap] (fun (m, _) => K.cur m)
noncomputable def E_step_Current : Env := EB_0_1_2.adds [(132, S_fetch_Fetch), (133, S_isa_Decode), (120, S_isa_IsPrivileged), (124, S_trap_IsSupervisor)]

theorem ok_step_Current : EnvOk E_step_Current := okEB_0_1_2.adds (l := _) ⟨(up_2_to_0_1_2 c_fetch_Fetch), (up_0_1_to_0_1_2 c_isa_Decode), (up_to_0_1_2 c_isa_IsPrivileged), (up_to_0_1_2 c_trap_IsSupervisor), trivial⟩

theorem t_step_Current (m : PMach) : evF E_step_Current 60 119 (encArgs [.mach] (m, ())) = 
 Tree.letv (okO [(AT.i IntKind.u32), AT.trap]) (K.load m m.core.pc (4 : Int)) fun x0 =>
 (bif (bne x0.snd.cause (0 : Int)) then
 (Tree.leaf (SV.tup [(SV.agg [(SV.v (Value.int IntKind.i64 (0 : Int))), (SV.v (Value.int IntKind.i64 (0 : Int))), (SV.v (Value.int IntKind.i64 (0 : Int))), (SV.v (Value.int IntKind.i64 (0 : Int))), (SV.v (Value.int IntKind.i32 (0 : Int)))]), (SV.agg [(SV.v (Value.int IntKind.i64 x0.snd.cause)), (SV.v (Value.int IntKind.u32 x0.snd.tval))])]))
 else
 (Tree.letv (okO [AT.instr, AT.b]) (K.decode x0.fst) fun x1 =>
 (bif x1.snd then
 (Tree.letv (okO [AT.b]) (K.privd x1.fst.op) fun x2 =>
 (bif x2 then
 (Tree.letv (okO [AT.b]) (K.super m.core) fun x3 =>
 (bif x3 then
 (Tree.leaf (SV.tup [(SV.agg [(SV.v (Value.int IntKind.i64 x1.fst.op)), (SV.v (Value.int IntKind.i64 x1.fst.rd)), (SV.v (Value.int IntKind.i64 x1.fst.ra)), (SV.v (Value.int IntKind.i64 x1.fst.rb)), (SV.v (Value.int IntKind.i32 x1.fst.imm))]), (SV.agg [(SV.v (Value.int IntKind.i64 (0 : Int))), (SV.v (Value.int IntKind.u32 (0 : Int)))])]))
 else
 (Tree.leaf (SV.tup [(SV.agg [(SV.v (Value.int IntKind.i64 (0 : Int))), (SV.v (Value.int IntKind.i64 (0 : Int))), (SV.v (Value.int IntKind.i64 (0 : Int))), (SV.v (Value.int IntKind.i64 (0 : Int))), (SV.v (Value.int IntKind.i32 (0 : Int)))]), (SV.agg [(SV.v (Value.int IntKind.i64 (2 : Int))), (SV.v (Value.int IntKind.u32 x0.fst))])]))))
 else
 (Tree.leaf (SV.tup [(SV.agg [(SV.v (Value.int IntKind.i64 x1.fst.op)), (SV.v (Value.int IntKind.i64 x1.fst.rd)), (SV.v (Value.int IntKind.i64 x1.fst.ra)), (SV.v (Value.int IntKind.i64 x1.fst.rb)), (SV.v (Value.int IntKind.i32 x1.fst.imm))]), (SV.agg [(SV.v (Value.int IntKind.i64 (0 : Int))), (SV.v (Value.int IntKind.u32 (0 : Int)))])]))))
 else
 (Tree.leaf (SV.tup [(SV.agg [(SV.v (Value.int IntKind.i64 (0 : Int))), (SV.v (Value.int IntKind.i64 (0 : Int))), (SV.v (Value.int IntKind.i64 (0 : Int))), (SV.v (Value.int IntKind.i64 (0 : Int))), (SV.v (Value.int IntKind.i32 (0 : Int)))]), (SV.agg [(SV.v (Value.int IntKind.i64 (1 : Int))), (SV.v (Value.int IntKind.u32 x0.fst))])]))))) := by kernel_rfl
section
attribute [local irreducible] evF evFL evFLs
theorem a_step_Current (m : PMach) (ok_m : okMach m) : (evF E_step_Current 60 119 (encArgs [.mach] (m, ()))).ends fun out_ => decO [.instr, .trap] out_ = some (K.cur m) := by
  rw [t_step_Current, Tree.ends_holds]
  simp only [Tree.holds_loop, Tree.holds_fork, Tree.holds_next, if_true, Tree.holds_cond, Tree.holds_letv, Tree.holds_leaf, Tree.holds_fail, decO, decA, decTup, decMach, decCore, decTrap, decInstr, decPart, decGuest, decConf, decEvent, decVcpu, decStep, bytesS, boolS, eventsS, intsS, guestsS, vcpusS, rowS, castL, Option.bind_some, Option.map_some, Option.some.injEq, Nat.beq_refl, beq_self_eq_true, Bool.and_self, cond_true, cond_false, eq_self, beq_iff_eq, beq_eq_false_iff_ne, bne_iff_ne, bne_eq_false_iff_eq, ne_eq, decide_eq_true_eq, decide_eq_false_iff_not, ble_true, ble_false, inRange_iff, inRange_false]
  unfold K.cur
  repeat' (first | refine drop_ok ?_ | intro _ | with_reducible apply And.intro)
  all_goals simp_all
  
theorem c_step_Current : SpecOk EB_0_1_2 119 S_step_Current := spec_sig ok_step_Current (n := 60) fun ⟨m, ⟨⟩⟩ h hok => a_step_Current m (ok_mach (okSL_head hok))
end

/-! regs_Get -/

def S_regs_Get : Spec := sig [.a .u32 16, .i .i64] [.i .u32] (fun (r, i, _) => K.get r i)
noncomputable def E_regs_Get : Env := EB.adds []

theorem ok_regs_Get : EnvOk E_regs_Get := okEB.adds (l := _) trivial

theorem t_regs_Get (r : List Int) (i : Int) : evF E_regs_Get 60 136 (encArgs [.a .u32 16, .i .i64] (r, i, ())) = 
 bif (decide (i > (0 : Int))) then
 (bif (decide (i < (16 : Int))) then
 (bif (inRange i 16) then
 (Tree.leaf (SV.v (Value.int IntKind.u32 (List.getD r ((Int.toNat i)) (0 : Int)))))
 else
 (Tree.fail))
 else
 (Tree.leaf (SV.v (Value.int IntKind.u32 (0 : Int)))))
 else
 (Tree.leaf (SV.v (Value.int IntKind.u32 (0 : Int)))) := by kernel_rfl
section
attribute [local irreducible] evF evFL evFLs
theorem a_regs_Get (r : List Int) (i : Int) (ok_r : okL .u32 16 r) (ok_i : okI .i64 i) : (evF E_regs_Get 60 136 (encArgs [.a .u32 16, .i .i64] (r, i, ()))).ends fun out_ => decO [.i .u32] out_ = some (K.get r i) := by
  rw [t_regs_Get, Tree.ends_holds]
  simp only [Tree.holds_loop, Tree.holds_fork, Tree.holds_next, if_true, Tree.holds_cond, Tree.holds_letv, Tree.holds_leaf, Tree.holds_fail, decO, decA, decTup, decMach, decCore, decTrap, decInstr, decPart, decGuest, decConf, decEvent, decVcpu, decStep, bytesS, boolS, eventsS, intsS, guestsS, vcpusS, rowS, castL, Option.bind_some, Option.map_some, Option.some.injEq, Nat.beq_refl, beq_self_eq_true, Bool.and_self, cond_true, cond_false, eq_self, K.get]
  grind [inRange]
  
theorem c_regs_Get : SpecOk EB 136 S_regs_Get := spec_sig ok_regs_Get (n := 60) fun ⟨r, i, ⟨⟩⟩ h hok => a_regs_Get r i (ok_arr (okSL_head hok)) (ok_int (okSL_head (okSL_tail hok)))
end

/-! regs_Set -/

def S_regs_Set : Spec := sig [.a .u32 16, .i .i64, .i .u32] [.a .u32 16] (fun (r, i, v, _) => K.put r i v)
noncomputable def E_regs_Set : Env := EB.adds []

theorem ok_regs_Set : EnvOk E_regs_Set := okEB.adds (l := _) trivial

theorem t_regs_Set (r : List Int) (i : Int) (v : Int) : evF E_regs_Set 60 138 (encArgs [.a .u32 16, .i .i64, .i .u32] (r, i, v, ())) = 
 bif (decide (i > (0 : Int))) then
 (bif (decide (i < (16 : Int))) then
 (bif (inRange i 16) then
 (Tree.leaf (SV.agg [(SV.arr IntKind.u32 16 (List.set r ((Int.toNat i)) v))]))
 else
 (Tree.fail))
 else
 (Tree.leaf (SV.agg [(SV.arr IntKind.u32 16 r)])))
 else
 (Tree.leaf (SV.agg [(SV.arr IntKind.u32 16 r)])) := by kernel_rfl
section
attribute [local irreducible] evF evFL evFLs
theorem a_regs_Set (r : List Int) (i : Int) (v : Int) (ok_r : okL .u32 16 r) (ok_i : okI .i64 i) (ok_v : okI .u32 v) : (evF E_regs_Set 60 138 (encArgs [.a .u32 16, .i .i64, .i .u32] (r, i, v, ()))).ends fun out_ => decO [.a .u32 16] out_ = some (K.put r i v) := by
  rw [t_regs_Set, Tree.ends_holds]
  simp only [Tree.holds_loop, Tree.holds_fork, Tree.holds_next, if_true, Tree.holds_cond, Tree.holds_letv, Tree.holds_leaf, Tree.holds_fail, decO, decA, decTup, decMach, decCore, decTrap, decInstr, decPart, decGuest, decConf, decEvent, decVcpu, decStep, bytesS, boolS, eventsS, intsS, guestsS, vcpusS, rowS, castL, Option.bind_some, Option.map_some, Option.some.injEq, Nat.beq_refl, beq_self_eq_true, Bool.and_self, cond_true, cond_false, eq_self, K.put]
  grind [inRange]
  
theorem c_regs_Set : SpecOk EB 138 S_regs_Set := spec_sig ok_regs_Set (n := 60) fun ⟨r, i, v, ⟨⟩⟩ h hok => a_regs_Set r i v (ok_arr (okSL_head hok)) (ok_int (okSL_head (okSL_tail hok))) (ok_int (okSL_head (okSL_tail (okSL_tail hok))))
end

/-! trap_Return -/

def S_trap_Return : Spec := sig [.core] [.core] (fun (c, _) => K.ret c)
noncomputable def E_trap_Return : Env := EB.adds []

theorem ok_trap_Return : EnvOk E_trap_Return := okEB.adds (l := _) trivial

theorem t_trap_Return (c : PCore) : evF E_trap_Return 60 137 (encArgs [.core] (c, ())) = 
 bif (bne (andI IntKind.u32 (List.getD c.csr 0 (0 : Int)) (4 : Int)) (0 : Int)) then
 (bif (bne (andI IntKind.u32 (List.getD c.csr 0 (0 : Int)) (8 : Int)) (0 : Int)) then
 (Tree.leaf (SV.agg [(SV.arr IntKind.u32 16 c.regs), (SV.v (Value.int IntKind.u32 (List.getD c.csr 1 (0 : Int)))), (SV.arr IntKind.u32 12 (List.set c.csr 0 (orI IntKind.u32 (orI IntKind.u32 (List.getD c.csr 0 (0 : Int)) (1 : Int)) (2 : Int))))]))
 else
 (Tree.leaf (SV.agg [(SV.arr IntKind.u32 16 c.regs), (SV.v (Value.int IntKind.u32 (List.getD c.csr 1 (0 : Int)))), (SV.arr IntKind.u32 12 (List.set c.csr 0 (andNotI IntKind.u32 (orI IntKind.u32 (List.getD c.csr 0 (0 : Int)) (1 : Int)) (2 : Int))))])))
 else
 (bif (bne (andI IntKind.u32 (List.getD c.csr 0 (0 : Int)) (8 : Int)) (0 : Int)) then
 (Tree.leaf (SV.agg [(SV.arr IntKind.u32 16 c.regs), (SV.v (Value.int IntKind.u32 (List.getD c.csr 1 (0 : Int)))), (SV.arr IntKind.u32 12 (List.set c.csr 0 (orI IntKind.u32 (andNotI IntKind.u32 (List.getD c.csr 0 (0 : Int)) (1 : Int)) (2 : Int))))]))
 else
 (Tree.leaf (SV.agg [(SV.arr IntKind.u32 16 c.regs), (SV.v (Value.int IntKind.u32 (List.getD c.csr 1 (0 : Int)))), (SV.arr IntKind.u32 12 (List.set c.csr 0 (andNotI IntKind.u32 (andNotI IntKind.u32 (List.getD c.csr 0 (0 : Int)) (1 : Int)) (2 : Int))))]))) := by kernel_rfl
section
attribute [local irreducible] evF evFL evFLs
theorem a_trap_Return (c : PCore) (ok_c : okCore c) : (evF E_trap_Return 60 137 (encArgs [.core] (c, ()))).ends fun out_ => decO [.core] out_ = some (K.ret c) := by
  rw [t_trap_Return, Tree.ends_holds]
  obtain ⟨s0, s1⟩ := ok_c.csr.u32 (i := 0) (by omega)
  simp only [Tree.holds_loop, Tree.holds_fork, Tree.holds_next, if_true, Tree.holds_cond, Tree.holds_letv, Tree.holds_leaf, Tree.holds_fail, decO, decA, decTup, decMach, decCore, decTrap, decInstr, decPart, decGuest, decConf, decEvent, decVcpu, decStep, bytesS, boolS, eventsS, intsS, guestsS, vcpusS, rowS, castL, Option.bind_some, Option.map_some, Option.some.injEq, Nat.beq_refl, beq_self_eq_true, Bool.and_self, cond_true, cond_false, eq_self, K.ret, K.retS]
  generalize c.csr.getD 0 0 = s at *
  simp only [and_4 s0 s1, and_8 s0 s1, or_1 s0 s1, andNot_1 s0 s1]
  have a2 : ∀ x : Int, 0 ≤ x → x < 4294967296 → orI .u32 x 2 = x + 2 * (1 - x / 2 % 2) := fun x h0 h1 => or_2 h0 h1
  have a3 : ∀ x : Int, 0 ≤ x → x < 4294967296 → andNotI .u32 x 2 = x - 2 * (x / 2 % 2) := fun x h0 h1 => andNot_2 h0 h1
  rw [a2 _ (by omega) (by omega), a2 _ (by omega) (by omega), a3 _ (by omega) (by omega), a3 _ (by omega) (by omega)]
  simp only [bne_iff_ne, ne_eq, bne_eq_false_iff_eq]
  refine ⟨fun h1 => ⟨fun h2 => ?_, fun h2 => ?_⟩, fun h1 => ⟨fun h2 => ?_, fun h2 => ?_⟩⟩ <;> (congr 2; omega)
  
theorem c_trap_Return : SpecOk EB 137 S_trap_Return := spec_sig ok_trap_Return (n := 60) fun ⟨c, ⟨⟩⟩ h hok => a_trap_Return c (ok_core (okSL_head hok))
end

/-! csr_Read -/

def S_csr_Read : Spec := sig [.a .u32 12, .i .u64, .i .i64] [.i .u32] (fun (c, time, n, _) => K.csrRead c time n)
noncomputable def E_csr_Read : Env := EB.adds []

theorem ok_csr_Read : EnvOk E_csr_Read := okEB.adds (l := _) trivial

theorem t_csr_Read (c : List Int) (time : Int) (n : Int) : evF E_csr_Read 60 139 (encArgs [.a .u32 12, .i .u64, .i .i64] (c, time, n, ())) = 
 bif (BEq.beq n (7 : Int)) then
 (Tree.leaf (SV.v (Value.int IntKind.u32 (IntKind.wrap IntKind.u32 time))))
 else
 (bif (BEq.beq n (8 : Int)) then
 (Tree.leaf (SV.v (Value.int IntKind.u32 (IntKind.wrap IntKind.u32 (Int.fdiv time (4294967296 : Int))))))
 else
 (bif (decide (n ≥ (0 : Int))) then
 (bif (decide (n < (12 : Int))) then
 (bif (inRange n 12) then
 (Tree.leaf (SV.v (Value.int IntKind.u32 (List.getD c ((Int.toNat n)) (0 : Int)))))
 else
 (Tree.fail))
 else
 (Tree.leaf (SV.v (Value.int IntKind.u32 (0 : Int)))))
 else
 (Tree.leaf (SV.v (Value.int IntKind.u32 (0 : Int)))))) := by kernel_rfl
section
attribute [local irreducible] evF evFL evFLs
theorem a_csr_Read (c : List Int) (time : Int) (n : Int) (ok_c : okL .u32 12 c) (ok_time : okI .u64 time) (ok_n : okI .i64 n) : (evF E_csr_Read 60 139 (encArgs [.a .u32 12, .i .u64, .i .i64] (c, time, n, ()))).ends fun out_ => decO [.i .u32] out_ = some (K.csrRead c time n) := by
  rw [t_csr_Read, Tree.ends_holds]
  obtain ⟨t0, t1⟩ := okI_u64 ok_time
  have e1 : IntKind.u32.wrap (Int.fdiv time 4294967296) = time / 4294967296 := by rw [Int.fdiv_eq_ediv_of_nonneg _ (by omega), wrap32]; omega
  simp only [Tree.holds_loop, Tree.holds_fork, Tree.holds_next, if_true, Tree.holds_cond, Tree.holds_letv, Tree.holds_leaf, Tree.holds_fail, decO, decA, decTup, decMach, decCore, decTrap, decInstr, decPart, decGuest, decConf, decEvent, decVcpu, decStep, bytesS, boolS, eventsS, intsS, guestsS, vcpusS, rowS, castL, Option.bind_some, Option.map_some, Option.some.injEq, Nat.beq_refl, beq_self_eq_true, Bool.and_self, cond_true, cond_false, eq_self, K.csrRead, e1, wrap32]
  grind [inRange]
  
theorem c_csr_Read : SpecOk EB 139 S_csr_Read := spec_sig ok_csr_Read (n := 60) fun ⟨c, time, n, ⟨⟩⟩ h hok => a_csr_Read c time n (ok_arr (okSL_head hok)) (ok_int (okSL_head (okSL_tail hok))) (ok_int (okSL_head (okSL_tail (okSL_tail hok))))
end

/-! csr_masks -/

def S_csr_masks : Spec := sig [] [.a .u32 12] (fun _ => K.mk)
noncomputable def E_csr_masks : Env := EB.adds []

theorem ok_csr_masks : EnvOk E_csr_masks := okEB.adds (l := _) trivial

theorem t_csr_masks : evF E_csr_masks 60 160 (encArgs [] ()) = 
 Tree.leaf (SV.agg [(SV.arr IntKind.u32 12 [(14 : Int), (4294967292 : Int), (4294967295 : Int), (4294967295 : Int), (4294967292 : Int), (4294967292 : Int), (4294967295 : Int), (0 : Int), (0 : Int), (4294967295 : Int), (4294967295 : Int), (4294967295 : Int)])]) := by kernel_rfl
section
attribute [local irreducible] evF evFL evFLs
theorem a_csr_masks : (evF E_csr_masks 60 160 (encArgs [] ())).ends fun out_ => decO [.a .u32 12] out_ = some (K.mk) := by
  rw [t_csr_masks, Tree.ends_holds]
  rfl
  
theorem c_csr_masks : SpecOk EB 160 S_csr_masks := spec_sig ok_csr_masks (n := 60) fun () h hok => a_csr_masks 
end

/-! csr_Write -/

def S_csr_Write : Spec := sig [.a .u32 12, .i .i64, .i .u32] [.a .u32 12] (fun (c, n, v, _) => K.csrWrite c n v)
noncomputable def E_csr_Write : Env := EB.adds [(160, S_csr_masks)]

theorem ok_csr_Write : EnvOk E_csr_Write := okEB.adds (l := _) ⟨c_csr_masks, trivial⟩

theorem t_csr_Write (c : List Int) (n : Int) (v : Int) : evF E_csr_Write 60 140 (encArgs [.a .u32 12, .i .i64, .i .u32] (c, n, v, ())) = 
 bif (decide (n ≥ (0 : Int))) then
 (bif (decide (n < (12 : Int))) then
 (bif (inRange n 12) then
 (Tree.letv (okO [(AT.a IntKind.u32 12)]) K.mk fun x0 =>
 (bif (inRange n 12) then
 (Tree.letv (okO [(AT.a IntKind.u32 12)]) K.mk fun x1 =>
 (bif (inRange n 12) then
 (bif (inRange n 12) then
 (Tree.leaf (SV.agg [(SV.arr IntKind.u32 12 (List.set c ((Int.toNat n)) (orI IntKind.u32 (andNotI IntKind.u32 (List.getD c ((Int.toNat n)) (0 : Int)) (List.getD x0 ((Int.toNat n)) (0 : Int))) (andI IntKind.u32 v (List.getD x1 ((Int.toNat n)) (0 : Int))))))]))
 else
 (Tree.fail))
 else
 (Tree.fail)))
 else
 (Tree.fail)))
 else
 (Tree.fail))
 else
 (Tree.leaf (SV.agg [(SV.arr IntKind.u32 12 c)])))
 else
 (Tree.leaf (SV.agg [(SV.arr IntKind.u32 12 c)])) := by kernel_rfl
section
attribute [local irreducible] evF evFL evFLs
theorem a_csr_Write (c : List Int) (n : Int) (v : Int) (ok_c : okL .u32 12 c) (ok_n : okI .i64 n) (ok_v : okI .u32 v) : (evF E_csr_Write 60 140 (encArgs [.a .u32 12, .i .i64, .i .u32] (c, n, v, ()))).ends fun out_ => decO [.a .u32 12] out_ = some (K.csrWrite c n v) := by
  rw [t_csr_Write, Tree.ends_holds]
  simp only [Tree.holds_loop, Tree.holds_fork, Tree.holds_next, if_true, Tree.holds_cond, Tree.holds_letv, Tree.holds_leaf, Tree.holds_fail, decO, decA, decTup, decMach, decCore, decTrap, decInstr, decPart, decGuest, decConf, decEvent, decVcpu, decStep, bytesS, boolS, eventsS, intsS, guestsS, vcpusS, rowS, castL, Option.bind_some, Option.map_some, Option.some.injEq, Nat.beq_refl, beq_self_eq_true, Bool.and_self, cond_true, cond_false, eq_self, K.csrWrite, K.mix]
  by_cases hn : 0 ≤ n ∧ n < 12
  · simp only [hn.1, hn.2, inRange_iff.2 (show 0 ≤ n ∧ n < ((12 : Nat) : Int) from hn), ge_iff_le, decide_true, and_self, if_true]; simp
  · simp only [if_neg hn, inRange_iff]
    refine ⟨fun h1 => ⟨fun h2 => absurd ⟨by simpa using h1, by simpa using h2⟩ hn, fun _ => trivial⟩, fun _ => trivial⟩
  
theorem c_csr_Write : SpecOk EB 140 S_csr_Write := spec_sig ok_csr_Write (n := 60) fun ⟨c, n, v, ⟨⟩⟩ h hok => a_csr_Write c n v (ok_arr (okSL_head hok)) (ok_int (okSL_head (okSL_tail hok))) (ok_int (okSL_head (okSL_tail (okSL_tail hok))))
end


end Go.Proofs.YtmbmahgaejcjiaaGreatDoor
