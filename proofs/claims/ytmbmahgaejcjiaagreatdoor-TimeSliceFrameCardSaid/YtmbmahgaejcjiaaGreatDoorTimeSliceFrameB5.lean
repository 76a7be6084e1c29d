/- Contracts of functions, by evaluation (nothing is claimed here). -/
import Derived.Test.YtmbmahgaejcjiaaGreatDoorSh29
import Derived.KernelRfl
import Derived.Test.YtmbmahgaejcjiaaGreatDoorProg
import Derived.Test.YtmbmahgaejcjiaaGreatDoorTimeSliceFrameB4
set_option linter.unusedVariables false
set_option linter.unusedSimpArgs false
set_option maxRecDepth 100000
set_option maxHeartbeats 1000000
namespace Go.Proofs.YtmbmahgaejcjiaaGreatDoor
open Go
/-! law23_TimeSliceFrame -/
@[reducible] def L_law23f (host : PMach) (v : PVcpu) (p : PPart) (q : Int) : LoopSpec where
  σ := Nat
  slots := [4, 5, 6, 8, 9, 10, 12]
  keys := [4, 5, 6, 9, 10]
  vals := fun i => [.loc 0 0 0 1, .loc 1 0 0 1, .loc 2 0 0 1, .b false, .loc 3 0 0 1, .loc 4 0 0 1, .v (.int .i64 (i : Int))]
  blks := fun i => [.cells (machC host) 30, .cells (vcpuC v) 33, .cells (partC p) 35, .cells (machC (K.slice host v p q).1) 30, .cells (vcpuC (K.slice host v p q).2) 33]
  inv := fun i => i ≤ host.mem.length
  mu := fun i => host.mem.length - i
theorem law23f_at {host : PMach} {v : PVcpu} {p : PPart} {q : Int} {P : Nat → Prop} {i : Nat} {w : Int} (hw : w = (i : Int)) (hi : i ≤ host.mem.length) (hP : P i) : (L_law23f host v p q).at P
    [.loc 0 0 0 1, .loc 1 0 0 1, .loc 2 0 0 1, .b false, .loc 3 0 0 1, .loc 4 0 0 1, .v (.int .i64 w)]
    [.cells (machC host) 30, .cells (vcpuC v) 33, .cells (partC p) 35, .cells (machC (K.slice host v p q).1) 30, .cells (vcpuC (K.slice host v p q).2) 33] := by
  subst hw
  exact ⟨i, rfl, rfl, hi, hP⟩
def S_law23_TimeSliceFrame : Spec := sig [.mach, .vcpu, .part, .i .i64] [.b] (fun (host, v, p, q, _) => true)
noncomputable def E_law23_TimeSliceFrame : Env := EB_0_1_2.adds [(9, S_law23_awake), (10, S_ref23_Fits), (11, S_timeslice_Run), (15, S_timeslice_Deadline), (22, S_vcpu_Valid), (21, S_ref05_Same), (23, S_ref16_Events), (24, S_ref06_Super), (14, S_ref16_Same)]

theorem ok_law23_TimeSliceFrame : EnvOk E_law23_TimeSliceFrame := okEB_0_1_2.adds (l := _) ⟨c_law23_awake, (up_to_0_1_2 c_ref23_Fits), c_timeslice_Run, (up_to_0_1_2 c_timeslice_Deadline), (up_to_0_1_2 c_vcpu_Valid), (up_to_0_1_2 c_ref05_Same), (up_to_0_1_2 c_ref16_Events), (up_to_0_1_2 c_ref06_Super), (up_to_0_1_2 c_ref16_Same), trivial⟩

theorem t_law23_TimeSliceFrame (host : PMach) (v : PVcpu) (p : PPart) (q : Int) : evFL E_law23_TimeSliceFrame (fun _ => some (L_law23f host v p q)) 60 8 (encArgs [.mach, .vcpu, .part, .i .i64] (host, v, p, q, ())) = 
 Tree.letv (okO [AT.b]) true fun x0 =>
 (bif x0 then
 (Tree.letv (okO [AT.b]) (K.fits23 host v p q) fun x1 =>
 (bif x1 then
 (bif (decide (And (host.halted = false) (And ((List.length host.mem) ≤ 1073741824) (And ((List.length host.out) ≤ 1073741824) (And ((List.length v.out) ≤ 1073741824) (And ((List.length v.log) ≤ 1073741824) (And (host.time ≤ (4611686018427387904 : Int)) (And (q ≤ (60 : Int)) ((p.base + p.size) ≤ (Int.ofNat (List.length host.mem))))))))))) then
 (Tree.letv (okO [AT.mach, AT.vcpu]) (K.slice host v p q) fun x2 =>
 (Tree.letv (okO [(AT.i IntKind.u64)]) (K.deadline host q) fun x3 =>
 (bif (decide (x2.snd.done < v.done)) then
 (Tree.leaf (SV.b false))
 else
 (bif (BEq.beq x2.snd.done v.done) then
 (bif v.halted then
 (bif (decide (x2.fst.time > (IntKind.wrap IntKind.u64 (x3 + (1 : Int))))) then
 (Tree.leaf (SV.b false))
 else
 (bif (decide (x2.fst.time < x3)) then
 (bif x2.snd.halted then
 (bif (decide (x2.fst.time < host.time)) then
 (Tree.leaf (SV.b false))
 else
 (Tree.letv (okO [AT.b]) (K.vform x2.snd) fun x4 =>
 (bif x4 then
 (bif (bne (Int.ofNat (List.length x2.fst.mem)) (Int.ofNat (List.length host.mem))) then
 (Tree.leaf (SV.b false))
 else
 (bif (decide ((Int.ofNat (List.length x2.snd.out)) < (Int.ofNat (List.length v.out)))) then
 (Tree.leaf (SV.b false))
 else
 (bif (decide ((Int.ofNat (List.length x2.snd.log)) < (Int.ofNat (List.length v.log)))) then
 (Tree.leaf (SV.b false))
 else
 (Tree.loop 0 (L_law23f host v p q) [(SV.loc 0 0 0 1), (SV.loc 1 0 0 1), (SV.loc 2 0 0 1), (SV.b false), (SV.loc 3 0 0 1), (SV.loc 4 0 0 1), (SV.v (Value.int IntKind.i64 (0 : Int)))] [(Blk.cells [(SV.arr IntKind.u32 16 host.core.regs), (SV.v (Value.int IntKind.u32 host.core.pc)), (SV.arr IntKind.u32 12 host.core.csr), (SV.rd ETy.u8 host.mem), (SV.v (Value.int IntKind.u64 host.time)), (SV.rd ETy.u8 host.out), (SV.v (Value.bool host.halted))] 30), (Blk.cells [(SV.arr IntKind.u32 16 v.core.regs), (SV.v (Value.int IntKind.u32 v.core.pc)), (SV.arr IntKind.u32 12 v.core.csr), (SV.rd ETy.u8 v.out), (SV.v (Value.bool v.halted)), (SV.v (Value.int IntKind.i64 v.done)), (SV.rd ETy.event v.log)] 33), (Blk.cells [(SV.v (Value.int IntKind.u32 p.base)), (SV.v (Value.int IntKind.u32 p.size))] 35), (Blk.cells [(SV.arr IntKind.u32 16 x2.fst.core.regs), (SV.v (Value.int IntKind.u32 x2.fst.core.pc)), (SV.arr IntKind.u32 12 x2.fst.core.csr), (SV.rd ETy.u8 x2.fst.mem), (SV.v (Value.int IntKind.u64 x2.fst.time)), (SV.rd ETy.u8 x2.fst.out), (SV.v (Value.bool x2.fst.halted))] 30), (Blk.cells [(SV.arr IntKind.u32 16 x2.snd.core.regs), (SV.v (Value.int IntKind.u32 x2.snd.core.pc)), (SV.arr IntKind.u32 12 x2.snd.core.csr), (SV.rd ETy.u8 x2.snd.out), (SV.v (Value.bool x2.snd.halted)), (SV.v (Value.int IntKind.i64 x2.snd.done)), (SV.rd ETy.event x2.snd.log)] 33)] fun (x5 : Nat) =>
 (bif (decide ((Int.ofNat x5) < (Int.ofNat (List.length (K.slice host v p q).fst.mem)))) then
 (bif (inRange (Int.ofNat x5) (List.length (K.slice host v p q).fst.mem)) then
 (bif (inRange (Int.ofNat x5) (List.length host.mem)) then
 (bif (bne (List.getD (K.slice host v p q).fst.mem (Int.toNat (Int.ofNat x5)) (0 : Int)) (List.getD host.mem (Int.toNat (Int.ofNat x5)) (0 : Int))) then
 (bif (decide ((Int.ofNat x5) < (IntKind.wrap IntKind.i64 p.base))) then
 (Tree.leaf (SV.b false))
 else
 (bif (decide ((Int.ofNat x5) ≥ (IntKind.wrap IntKind.i64 ((IntKind.wrap IntKind.i64 p.base) + (IntKind.wrap IntKind.i64 p.size))))) then
 (Tree.leaf (SV.b false))
 else
 ((Tree.next 0 [(SV.loc 0 0 0 1), (SV.loc 1 0 0 1), (SV.loc 2 0 0 1), (SV.b false), (SV.loc 3 0 0 1), (SV.loc 4 0 0 1), (SV.v (Value.int IntKind.i64 (IntKind.wrap IntKind.i64 ((Int.ofNat x5) + (1 : Int)))))] [(Blk.cells [(SV.arr IntKind.u32 16 host.core.regs), (SV.v (Value.int IntKind.u32 host.core.pc)), (SV.arr IntKind.u32 12 host.core.csr), (SV.rd ETy.u8 host.mem), (SV.v (Value.int IntKind.u64 host.time)), (SV.rd ETy.u8 host.out), (SV.v (Value.bool host.halted))] 30), (Blk.cells [(SV.arr IntKind.u32 16 v.core.regs), (SV.v (Value.int IntKind.u32 v.core.pc)), (SV.arr IntKind.u32 12 v.core.csr), (SV.rd ETy.u8 v.out), (SV.v (Value.bool v.halted)), (SV.v (Value.int IntKind.i64 v.done)), (SV.rd ETy.event v.log)] 33), (Blk.cells [(SV.v (Value.int IntKind.u32 p.base)), (SV.v (Value.int IntKind.u32 p.size))] 35), (Blk.cells [(SV.arr IntKind.u32 16 (K.slice host v p q).fst.core.regs), (SV.v (Value.int IntKind.u32 (K.slice host v p q).fst.core.pc)), (SV.arr IntKind.u32 12 (K.slice host v p q).fst.core.csr), (SV.rd ETy.u8 (K.slice host v p q).fst.mem), (SV.v (Value.int IntKind.u64 (K.slice host v p q).fst.time)), (SV.rd ETy.u8 (K.slice host v p q).fst.out), (SV.v (Value.bool (K.slice host v p q).fst.halted))] 30), (Blk.cells [(SV.arr IntKind.u32 16 (K.slice host v p q).snd.core.regs), (SV.v (Value.int IntKind.u32 (K.slice host v p q).snd.core.pc)), (SV.arr IntKind.u32 12 (K.slice host v p q).snd.core.csr), (SV.rd ETy.u8 (K.slice host v p q).snd.out), (SV.v (Value.bool (K.slice host v p q).snd.halted)), (SV.v (Value.int IntKind.i64 (K.slice host v p q).snd.done)), (SV.rd ETy.event (K.slice host v p q).snd.log)] 33)]))))
 else
 ((Tree.next 0 [(SV.loc 0 0 0 1), (SV.loc 1 0 0 1), (SV.loc 2 0 0 1), (SV.b false), (SV.loc 3 0 0 1), (SV.loc 4 0 0 1), (SV.v (Value.int IntKind.i64 (IntKind.wrap IntKind.i64 ((Int.ofNat x5) + (1 : Int)))))] [(Blk.cells [(SV.arr IntKind.u32 16 host.core.regs), (SV.v (Value.int IntKind.u32 host.core.pc)), (SV.arr IntKind.u32 12 host.core.csr), (SV.rd ETy.u8 host.mem), (SV.v (Value.int IntKind.u64 host.time)), (SV.rd ETy.u8 host.out), (SV.v (Value.bool host.halted))] 30), (Blk.cells [(SV.arr IntKind.u32 16 v.core.regs), (SV.v (Value.int IntKind.u32 v.core.pc)), (SV.arr IntKind.u32 12 v.core.csr), (SV.rd ETy.u8 v.out), (SV.v (Value.bool v.halted)), (SV.v (Value.int IntKind.i64 v.done)), (SV.rd ETy.event v.log)] 33), (Blk.cells [(SV.v (Value.int IntKind.u32 p.base)), (SV.v (Value.int IntKind.u32 p.size))] 35), (Blk.cells [(SV.arr IntKind.u32 16 (K.slice host v p q).fst.core.regs), (SV.v (Value.int IntKind.u32 (K.slice host v p q).fst.core.pc)), (SV.arr IntKind.u32 12 (K.slice host v p q).fst.core.csr), (SV.rd ETy.u8 (K.slice host v p q).fst.mem), (SV.v (Value.int IntKind.u64 (K.slice host v p q).fst.time)), (SV.rd ETy.u8 (K.slice host v p q).fst.out), (SV.v (Value.bool (K.slice host v p q).fst.halted))] 30), (Blk.cells [(SV.arr IntKind.u32 16 (K.slice host v p q).snd.core.regs), (SV.v (Value.int IntKind.u32 (K.slice host v p q).snd.core.pc)), (SV.arr IntKind.u32 12 (K.slice host v p q).snd.core.csr), (SV.rd ETy.u8 (K.slice host v p q).snd.out), (SV.v (Value.bool (K.slice host v p q).snd.halted)), (SV.v (Value.int IntKind.i64 (K.slice host v p q).snd.done)), (SV.rd ETy.event (K.slice host v p q).snd.log)] 33)])))
 else
 (Tree.fail))
 else
 (Tree.fail))
 else
 (bif (Bool.and (decide ((0 : Int) ≤ (Int.ofNat (List.length v.out)))) (decide ((Int.ofNat (List.length v.out)) ≤ (Int.ofNat (List.length (K.slice host v p q).snd.out))))) then
 (Tree.letv (okO [AT.b]) (decide ((List.drop 0 (List.take (Int.toNat (Int.ofNat (List.length v.out))) (K.slice host v p q).snd.out)) = v.out)) fun x6 =>
 (bif x6 then
 (bif (Bool.and (decide ((0 : Int) ≤ (Int.ofNat (List.length v.log)))) (decide ((Int.ofNat (List.length v.log)) ≤ (Int.ofNat (List.length (K.slice host v p q).snd.log))))) then
 (Tree.letv (okO [AT.b]) (decide ((List.drop 0 (List.take (Int.toNat (Int.ofNat (List.length v.log))) (K.slice host v p q).snd.log)) = v.log)) fun x7 =>
 (bif x7 then
 (Tree.letv (okO [AT.b]) (decide ((K.slice host v p q).fst.out = host.out)) fun x8 =>
 (bif x8 then
 (bif (K.slice host v p q).fst.halted then
 (Tree.leaf (SV.b false))
 else
 (bif v.halted then
 (bif v.halted then
 (Tree.letv (okO [AT.b]) (decide ((K.slice host v p q).snd = v)) fun x9 =>
 (bif x9 then
 (bif (BEq.beq (K.slice host v p q).fst.time host.time) then
 (Tree.leaf (SV.b true))
 else
 (Tree.leaf (SV.b false)))
 else
 (Tree.leaf (SV.b false))))
 else
 (Tree.leaf (SV.b false)))
 else
 (bif (decide ((K.slice host v p q).fst.core.regs = [(0 : Int), (0 : Int), (0 : Int), (0 : Int), (0 : Int), (0 : Int), (0 : Int), (0 : Int), (0 : Int), (0 : Int), (0 : Int), (0 : Int), (0 : Int), (0 : Int), (0 : Int), (0 : Int)])) then
 (bif (BEq.beq (K.slice host v p q).fst.core.pc (0 : Int)) then
 (Tree.letv (okO [AT.b]) (K.super (K.slice host v p q).fst.core) fun x9 =>
 (bif x9 then
 (Tree.leaf (SV.b true))
 else
 (bif v.halted then
 (Tree.letv (okO [AT.b]) (decide ((K.slice host v p q).snd = v)) fun x10 =>
 (bif x10 then
 (bif (BEq.beq (K.slice host v p q).fst.time host.time) then
 (Tree.leaf (SV.b true))
 else
 (Tree.leaf (SV.b false)))
 else
 (Tree.leaf (SV.b false))))
 else
 (Tree.leaf (SV.b false)))))
 else
 (bif v.halted then
 (Tree.letv (okO [AT.b]) (decide ((K.slice host v p q).snd = v)) fun x9 =>
 (bif x9 then
 (bif (BEq.beq (K.slice host v p q).fst.time host.time) then
 (Tree.leaf (SV.b true))
 else
 (Tree.leaf (SV.b false)))
 else
 (Tree.leaf (SV.b false))))
 else
 (Tree.leaf (SV.b false))))
 else
 (bif v.halted then
 (Tree.letv (okO [AT.b]) (decide ((K.slice host v p q).snd = v)) fun x9 =>
 (bif x9 then
 (bif (BEq.beq (K.slice host v p q).fst.time host.time) then
 (Tree.leaf (SV.b true))
 else
 (Tree.leaf (SV.b false)))
 else
 (Tree.leaf (SV.b false))))
 else
 (Tree.leaf (SV.b false))))))
 else
 (Tree.leaf (SV.b false))))
 else
 (Tree.leaf (SV.b false))))
 else
 (Tree.fail))
 else
 (Tree.leaf (SV.b false))))
 else
 (Tree.fail)))))))
 else
 (Tree.leaf (SV.b false)))))
 else
 (Tree.leaf (SV.b false)))
 else
 (bif (decide (x2.fst.time < host.time)) then
 (Tree.leaf (SV.b false))
 else
 (Tree.letv (okO [AT.b]) (K.vform x2.snd) fun x4 =>
 (bif x4 then
 (bif (bne (Int.ofNat (List.length x2.fst.mem)) (Int.ofNat (List.length host.mem))) then
 (Tree.leaf (SV.b false))
 else
 (bif (decide ((Int.ofNat (List.length x2.snd.out)) < (Int.ofNat (List.length v.out)))) then
 (Tree.leaf (SV.b false))
 else
 (bif (decide ((Int.ofNat (List.length x2.snd.log)) < (Int.ofNat (List.length v.log)))) then
 (Tree.leaf (SV.b false))
 else
 (Tree.loop 0 (L_law23f host v p q) [(SV.loc 0 0 0 1), (SV.loc 1 0 0 1), (SV.loc 2 0 0 1), (SV.b false), (SV.loc 3 0 0 1), (SV.loc 4 0 0 1), (SV.v (Value.int IntKind.i64 (0 : Int)))] [(Blk.cells [(SV.arr IntKind.u32 16 host.core.regs), (SV.v (Value.int IntKind.u32 host.core.pc)), (SV.arr IntKind.u32 12 host.core.csr), (SV.rd ETy.u8 host.mem), (SV.v (Value.int IntKind.u64 host.time)), (SV.rd ETy.u8 host.out), (SV.v (Value.bool host.halted))] 30), (Blk.cells [(SV.arr IntKind.u32 16 v.core.regs), (SV.v (Value.int IntKind.u32 v.core.pc)), (SV.arr IntKind.u32 12 v.core.csr), (SV.rd ETy.u8 v.out), (SV.v (Value.bool v.halted)), (SV.v (Value.int IntKind.i64 v.done)), (SV.rd ETy.event v.log)] 33), (Blk.cells [(SV.v (Value.int IntKind.u32 p.base)), (SV.v (Value.int IntKind.u32 p.size))] 35), (Blk.cells [(SV.arr IntKind.u32 16 x2.fst.core.regs), (SV.v (Value.int IntKind.u32 x2.fst.core.pc)), (SV.arr IntKind.u32 12 x2.fst.core.csr), (SV.rd ETy.u8 x2.fst.mem), (SV.v (Value.int IntKind.u64 x2.fst.time)), (SV.rd ETy.u8 x2.fst.out), (SV.v (Value.bool x2.fst.halted))] 30), (Blk.cells [(SV.arr IntKind.u32 16 x2.snd.core.regs), (SV.v (Value.int IntKind.u32 x2.snd.core.pc)), (SV.arr IntKind.u32 12 x2.snd.core.csr), (SV.rd ETy.u8 x2.snd.out), (SV.v (Value.bool x2.snd.halted)), (SV.v (Value.int IntKind.i64 x2.snd.done)), (SV.rd ETy.event x2.snd.log)] 33)] fun (x5 : Nat) =>
 (bif (decide ((Int.ofNat x5) < (Int.ofNat (List.length (K.slice host v p q).fst.mem)))) then
 (bif (inRange (Int.ofNat x5) (List.length (K.slice host v p q).fst.mem)) then
 (bif (inRange (Int.ofNat x5) (List.length host.mem)) then
 (bif (bne (List.getD (K.slice host v p q).fst.mem (Int.toNat (Int.ofNat x5)) (0 : Int)) (List.getD host.mem (Int.toNat (Int.ofNat x5)) (0 : Int))) then
 (bif (decide ((Int.ofNat x5) < (IntKind.wrap IntKind.i64 p.base))) then
 (Tree.leaf (SV.b false))
 else
 (bif (decide ((Int.ofNat x5) ≥ (IntKind.wrap IntKind.i64 ((IntKind.wrap IntKind.i64 p.base) + (IntKind.wrap IntKind.i64 p.size))))) then
 (Tree.leaf (SV.b false))
 else
 ((Tree.next 0 [(SV.loc 0 0 0 1), (SV.loc 1 0 0 1), (SV.loc 2 0 0 1), (SV.b false), (SV.loc 3 0 0 1), (SV.loc 4 0 0 1), (SV.v (Value.int IntKind.i64 (IntKind.wrap IntKind.i64 ((Int.ofNat x5) + (1 : Int)))))] [(Blk.cells [(SV.arr IntKind.u32 16 host.core.regs), (SV.v (Value.int IntKind.u32 host.core.pc)), (SV.arr IntKind.u32 12 host.core.csr), (SV.rd ETy.u8 host.mem), (SV.v (Value.int IntKind.u64 host.time)), (SV.rd ETy.u8 host.out), (SV.v (Value.bool host.halted))] 30), (Blk.cells [(SV.arr IntKind.u32 16 v.core.regs), (SV.v (Value.int IntKind.u32 v.core.pc)), (SV.arr IntKind.u32 12 v.core.csr), (SV.rd ETy.u8 v.out), (SV.v (Value.bool v.halted)), (SV.v (Value.int IntKind.i64 v.done)), (SV.rd ETy.event v.log)] 33), (Blk.cells [(SV.v (Value.int IntKind.u32 p.base)), (SV.v (Value.int IntKind.u32 p.size))] 35), (Blk.cells [(SV.arr IntKind.u32 16 (K.slice host v p q).fst.core.regs), (SV.v (Value.int IntKind.u32 (K.slice host v p q).fst.core.pc)), (SV.arr IntKind.u32 12 (K.slice host v p q).fst.core.csr), (SV.rd ETy.u8 (K.slice host v p q).fst.mem), (SV.v (Value.int IntKind.u64 (K.slice host v p q).fst.time)), (SV.rd ETy.u8 (K.slice host v p q).fst.out), (SV.v (Value.bool (K.slice host v p q).fst.halted))] 30), (Blk.cells [(SV.arr IntKind.u32 16 (K.slice host v p q).snd.core.regs), (SV.v (Value.int IntKind.u32 (K.slice host v p q).snd.core.pc)), (SV.arr IntKind.u32 12 (K.slice host v p q).snd.core.csr), (SV.rd ETy.u8 (K.slice host v p q).snd.out), (SV.v (Value.bool (K.slice host v p q).snd.halted)), (SV.v (Value.int IntKind.i64 (K.slice host v p q).snd.done)), (SV.rd ETy.event (K.slice host v p q).snd.log)] 33)]))))
 else
 ((Tree.next 0 [(SV.loc 0 0 0 1), (SV.loc 1 0 0 1), (SV.loc 2 0 0 1), (SV.b false), (SV.loc 3 0 0 1), (SV.loc 4 0 0 1), (SV.v (Value.int IntKind.i64 (IntKind.wrap IntKind.i64 ((Int.ofNat x5) + (1 : Int)))))] [(Blk.cells [(SV.arr IntKind.u32 16 host.core.regs), (SV.v (Value.int IntKind.u32 host.core.pc)), (SV.arr IntKind.u32 12 host.core.csr), (SV.rd ETy.u8 host.mem), (SV.v (Value.int IntKind.u64 host.time)), (SV.rd ETy.u8 host.out), (SV.v (Value.bool host.halted))] 30), (Blk.cells [(SV.arr IntKind.u32 16 v.core.regs), (SV.v (Value.int IntKind.u32 v.core.pc)), (SV.arr IntKind.u32 12 v.core.csr), (SV.rd ETy.u8 v.out), (SV.v (Value.bool v.halted)), (SV.v (Value.int IntKind.i64 v.done)), (SV.rd ETy.event v.log)] 33), (Blk.cells [(SV.v (Value.int IntKind.u32 p.base)), (SV.v (Value.int IntKind.u32 p.size))] 35), (Blk.cells [(SV.arr IntKind.u32 16 (K.slice host v p q).fst.core.regs), (SV.v (Value.int IntKind.u32 (K.slice host v p q).fst.core.pc)), (SV.arr IntKind.u32 12 (K.slice host v p q).fst.core.csr), (SV.rd ETy.u8 (K.slice host v p q).fst.mem), (SV.v (Value.int IntKind.u64 (K.slice host v p q).fst.time)), (SV.rd ETy.u8 (K.slice host v p q).fst.out), (SV.v (Value.bool (K.slice host v p q).fst.halted))] 30), (Blk.cells [(SV.arr IntKind.u32 16 (K.slice host v p q).snd.core.regs), (SV.v (Value.int IntKind.u32 (K.slice host v p q).snd.core.pc)), (SV.arr IntKind.u32 12 (K.slice host v p q).snd.core.csr), (SV.rd ETy.u8 (K.slice host v p q).snd.out), (SV.v (Value.bool (K.slice host v p q).snd.halted)), (SV.v (Value.int IntKind.i64 (K.slice host v p q).snd.done)), (SV.rd ETy.event (K.slice host v p q).snd.log)] 33)])))
 else
 (Tree.fail))
 else
 (Tree.fail))
 else
 (bif (Bool.and (decide ((0 : Int) ≤ (Int.ofNat (List.length v.out)))) (decide ((Int.ofNat (List.length v.out)) ≤ (Int.ofNat (List.length (K.slice host v p q).snd.out))))) then
 (Tree.letv (okO [AT.b]) (decide ((List.drop 0 (List.take (Int.toNat (Int.ofNat (List.length v.out))) (K.slice host v p q).snd.out)) = v.out)) fun x6 =>
 (bif x6 then
 (bif (Bool.and (decide ((0 : Int) ≤ (Int.ofNat (List.length v.log)))) (decide ((Int.ofNat (List.length v.log)) ≤ (Int.ofNat (List.length (K.slice host v p q).snd.log))))) then
 (Tree.letv (okO [AT.b]) (decide ((List.drop 0 (List.take (Int.toNat (Int.ofNat (List.length v.log))) (K.slice host v p q).snd.log)) = v.log)) fun x7 =>
 (bif x7 then
 (Tree.letv (okO [AT.b]) (decide ((K.slice host v p q).fst.out = host.out)) fun x8 =>
 (bif x8 then
 (bif (K.slice host v p q).fst.halted then
 (Tree.leaf (SV.b false))
 else
 (bif v.halted then
 (bif v.halted then
 (Tree.letv (okO [AT.b]) (decide ((K.slice host v p q).snd = v)) fun x9 =>
 (bif x9 then
 (bif (BEq.beq (K.slice host v p q).fst.time host.time) then
 (Tree.leaf (SV.b true))
 else
 (Tree.leaf (SV.b false)))
 else
 (Tree.leaf (SV.b false))))
 else
 (Tree.leaf (SV.b false)))
 else
 (bif (decide ((K.slice host v p q).fst.core.regs = [(0 : Int), (0 : Int), (0 : Int), (0 : Int), (0 : Int), (0 : Int), (0 : Int), (0 : Int), (0 : Int), (0 : Int), (0 : Int), (0 : Int), (0 : Int), (0 : Int), (0 : Int), (0 : Int)])) then
 (bif (BEq.beq (K.slice host v p q).fst.core.pc (0 : Int)) then
 (Tree.letv (okO [AT.b]) (K.super (K.slice host v p q).fst.core) fun x9 =>
 (bif x9 then
 (Tree.leaf (SV.b true))
 else
 (bif v.halted then
 (Tree.letv (okO [AT.b]) (decide ((K.slice host v p q).snd = v)) fun x10 =>
 (bif x10 then
 (bif (BEq.beq (K.slice host v p q).fst.time host.time) then
 (Tree.leaf (SV.b true))
 else
 (Tree.leaf (SV.b false)))
 else
 (Tree.leaf (SV.b false))))
 else
 (Tree.leaf (SV.b false)))))
 else
 (bif v.halted then
 (Tree.letv (okO [AT.b]) (decide ((K.slice host v p q).snd = v)) fun x9 =>
 (bif x9 then
 (bif (BEq.beq (K.slice host v p q).fst.time host.time) then
 (Tree.leaf (SV.b true))
 else
 (Tree.leaf (SV.b false)))
 else
 (Tree.leaf (SV.b false))))
 else
 (Tree.leaf (SV.b false))))
 else
 (bif v.halted then
 (Tree.letv (okO [AT.b]) (decide ((K.slice host v p q).snd = v)) fun x9 =>
 (bif x9 then
 (bif (BEq.beq (K.slice host v p q).fst.time host.time) then
 (Tree.leaf (SV.b true))
 else
 (Tree.leaf (SV.b false)))
 else
 (Tree.leaf (SV.b false))))
 else
 (Tree.leaf (SV.b false))))))
 else
 (Tree.leaf (SV.b false))))
 else
 (Tree.leaf (SV.b false))))
 else
 (Tree.fail))
 else
 (Tree.leaf (SV.b false))))
 else
 (Tree.fail)))))))
 else
 (Tree.leaf (SV.b false)))))))
 else
 (Tree.leaf (SV.b false)))
 else
 (bif (decide (x2.fst.time > (IntKind.wrap IntKind.u64 (x3 + (1 : Int))))) then
 (Tree.leaf (SV.b false))
 else
 (bif (decide (x2.fst.time < x3)) then
 (bif x2.snd.halted then
 (bif (decide (x2.fst.time < host.time)) then
 (Tree.leaf (SV.b false))
 else
 (Tree.letv (okO [AT.b]) (K.vform x2.snd) fun x4 =>
 (bif x4 then
 (bif (bne (Int.ofNat (List.length x2.fst.mem)) (Int.ofNat (List.length host.mem))) then
 (Tree.leaf (SV.b false))
 else
 (bif (decide ((Int.ofNat (List.length x2.snd.out)) < (Int.ofNat (List.length v.out)))) then
 (Tree.leaf (SV.b false))
 else
 (bif (decide ((Int.ofNat (List.length x2.snd.log)) < (Int.ofNat (List.length v.log)))) then
 (Tree.leaf (SV.b false))
 else
 (Tree.loop 0 (L_law23f host v p q) [(SV.loc 0 0 0 1), (SV.loc 1 0 0 1), (SV.loc 2 0 0 1), (SV.b false), (SV.loc 3 0 0 1), (SV.loc 4 0 0 1), (SV.v (Value.int IntKind.i64 (0 : Int)))] [(Blk.cells [(SV.arr IntKind.u32 16 host.core.regs), (SV.v (Value.int IntKind.u32 host.core.pc)), (SV.arr IntKind.u32 12 host.core.csr), (SV.rd ETy.u8 host.mem), (SV.v (Value.int IntKind.u64 host.time)), (SV.rd ETy.u8 host.out), (SV.v (Value.bool host.halted))] 30), (Blk.cells [(SV.arr IntKind.u32 16 v.core.regs), (SV.v (Value.int IntKind.u32 v.core.pc)), (SV.arr IntKind.u32 12 v.core.csr), (SV.rd ETy.u8 v.out), (SV.v (Value.bool v.halted)), (SV.v (Value.int IntKind.i64 v.done)), (SV.rd ETy.event v.log)] 33), (Blk.cells [(SV.v (Value.int IntKind.u32 p.base)), (SV.v (Value.int IntKind.u32 p.size))] 35), (Blk.cells [(SV.arr IntKind.u32 16 x2.fst.core.regs), (SV.v (Value.int IntKind.u32 x2.fst.core.pc)), (SV.arr IntKind.u32 12 x2.fst.core.csr), (SV.rd ETy.u8 x2.fst.mem), (SV.v (Value.int IntKind.u64 x2.fst.time)), (SV.rd ETy.u8 x2.fst.out), (SV.v (Value.bool x2.fst.halted))] 30), (Blk.cells [(SV.arr IntKind.u32 16 x2.snd.core.regs), (SV.v (Value.int IntKind.u32 x2.snd.core.pc)), (SV.arr IntKind.u32 12 x2.snd.core.csr), (SV.rd ETy.u8 x2.snd.out), (SV.v (Value.bool x2.snd.halted)), (SV.v (Value.int IntKind.i64 x2.snd.done)), (SV.rd ETy.event x2.snd.log)] 33)] fun (x5 : Nat) =>
 (bif (decide ((Int.ofNat x5) < (Int.ofNat (List.length (K.slice host v p q).fst.mem)))) then
 (bif (inRange (Int.ofNat x5) (List.length (K.slice host v p q).fst.mem)) then
 (bif (inRange (Int.ofNat x5) (List.length host.mem)) then
 (bif (bne (List.getD (K.slice host v p q).fst.mem (Int.toNat (Int.ofNat x5)) (0 : Int)) (List.getD host.mem (Int.toNat (Int.ofNat x5)) (0 : Int))) then
 (bif (decide ((Int.ofNat x5) < (IntKind.wrap IntKind.i64 p.base))) then
 (Tree.leaf (SV.b false))
 else
 (bif (decide ((Int.ofNat x5) ≥ (IntKind.wrap IntKind.i64 ((IntKind.wrap IntKind.i64 p.base) + (IntKind.wrap IntKind.i64 p.size))))) then
 (Tree.leaf (SV.b false))
 else
 ((Tree.next 0 [(SV.loc 0 0 0 1), (SV.loc 1 0 0 1), (SV.loc 2 0 0 1), (SV.b false), (SV.loc 3 0 0 1), (SV.loc 4 0 0 1), (SV.v (Value.int IntKind.i64 (IntKind.wrap IntKind.i64 ((Int.ofNat x5) + (1 : Int)))))] [(Blk.cells [(SV.arr IntKind.u32 16 host.core.regs), (SV.v (Value.int IntKind.u32 host.core.pc)), (SV.arr IntKind.u32 12 host.core.csr), (SV.rd ETy.u8 host.mem), (SV.v (Value.int IntKind.u64 host.time)), (SV.rd ETy.u8 host.out), (SV.v (Value.bool host.halted))] 30), (Blk.cells [(SV.arr IntKind.u32 16 v.core.regs), (SV.v (Value.int IntKind.u32 v.core.pc)), (SV.arr IntKind.u32 12 v.core.csr), (SV.rd ETy.u8 v.out), (SV.v (Value.bool v.halted)), (SV.v (Value.int IntKind.i64 v.done)), (SV.rd ETy.event v.log)] 33), (Blk.cells [(SV.v (Value.int IntKind.u32 p.base)), (SV.v (Value.int IntKind.u32 p.size))] 35), (Blk.cells [(SV.arr IntKind.u32 16 (K.slice host v p q).fst.core.regs), (SV.v (Value.int IntKind.u32 (K.slice host v p q).fst.core.pc)), (SV.arr IntKind.u32 12 (K.slice host v p q).fst.core.csr), (SV.rd ETy.u8 (K.slice host v p q).fst.mem), (SV.v (Value.int IntKind.u64 (K.slice host v p q).fst.time)), (SV.rd ETy.u8 (K.slice host v p q).fst.out), (SV.v (Value.bool (K.slice host v p q).fst.halted))] 30), (Blk.cells [(SV.arr IntKind.u32 16 (K.slice host v p q).snd.core.regs), (SV.v (Value.int IntKind.u32 (K.slice host v p q).snd.core.pc)), (SV.arr IntKind.u32 12 (K.slice host v p q).snd.core.csr), (SV.rd ETy.u8 (K.slice host v p q).snd.out), (SV.v (Value.bool (K.slice host v p q).snd.halted)), (SV.v (Value.int IntKind.i64 (K.slice host v p q).snd.done)), (SV.rd ETy.event (K.slice host v p q).snd.log)] 33)]))))
 else
 ((Tree.next 0 [(SV.loc 0 0 0 1), (SV.loc 1 0 0 1), (SV.loc 2 0 0 1), (SV.b false), (SV.loc 3 0 0 1), (SV.loc 4 0 0 1), (SV.v (Value.int IntKind.i64 (IntKind.wrap IntKind.i64 ((Int.ofNat x5) + (1 : Int)))))] [(Blk.cells [(SV.arr IntKind.u32 16 host.core.regs), (SV.v (Value.int IntKind.u32 host.core.pc)), (SV.arr IntKind.u32 12 host.core.csr), (SV.rd ETy.u8 host.mem), (SV.v (Value.int IntKind.u64 host.time)), (SV.rd ETy.u8 host.out), (SV.v (Value.bool host.halted))] 30), (Blk.cells [(SV.arr IntKind.u32 16 v.core.regs), (SV.v (Value.int IntKind.u32 v.core.pc)), (SV.arr IntKind.u32 12 v.core.csr), (SV.rd ETy.u8 v.out), (SV.v (Value.bool v.halted)), (SV.v (Value.int IntKind.i64 v.done)), (SV.rd ETy.event v.log)] 33), (Blk.cells [(SV.v (Value.int IntKind.u32 p.base)), (SV.v (Value.int IntKind.u32 p.size))] 35), (Blk.cells [(SV.arr IntKind.u32 16 (K.slice host v p q).fst.core.regs), (SV.v (Value.int IntKind.u32 (K.slice host v p q).fst.core.pc)), (SV.arr IntKind.u32 12 (K.slice host v p q).fst.core.csr), (SV.rd ETy.u8 (K.slice host v p q).fst.mem), (SV.v (Value.int IntKind.u64 (K.slice host v p q).fst.time)), (SV.rd ETy.u8 (K.slice host v p q).fst.out), (SV.v (Value.bool (K.slice host v p q).fst.halted))] 30), (Blk.cells [(SV.arr IntKind.u32 16 (K.slice host v p q).snd.core.regs), (SV.v (Value.int IntKind.u32 (K.slice host v p q).snd.core.pc)), (SV.arr IntKind.u32 12 (K.slice host v p q).snd.core.csr), (SV.rd ETy.u8 (K.slice host v p q).snd.out), (SV.v (Value.bool (K.slice host v p q).snd.halted)), (SV.v (Value.int IntKind.i64 (K.slice host v p q).snd.done)), (SV.rd ETy.event (K.slice host v p q).snd.log)] 33)])))
 else
 (Tree.fail))
 else
 (Tree.fail))
 else
 (bif (Bool.and (decide ((0 : Int) ≤ (Int.ofNat (List.length v.out)))) (decide ((Int.ofNat (List.length v.out)) ≤ (Int.ofNat (List.length (K.slice host v p q).snd.out))))) then
 (Tree.letv (okO [AT.b]) (decide ((List.drop 0 (List.take (Int.toNat (Int.ofNat (List.length v.out))) (K.slice host v p q).snd.out)) = v.out)) fun x6 =>
 (bif x6 then
 (bif (Bool.and (decide ((0 : Int) ≤ (Int.ofNat (List.length v.log)))) (decide ((Int.ofNat (List.length v.log)) ≤ (Int.ofNat (List.length (K.slice host v p q).snd.log))))) then
 (Tree.letv (okO [AT.b]) (decide ((List.drop 0 (List.take (Int.toNat (Int.ofNat (List.length v.log))) (K.slice host v p q).snd.log)) = v.log)) fun x7 =>
 (bif x7 then
 (Tree.letv (okO [AT.b]) (decide ((K.slice host v p q).fst.out = host.out)) fun x8 =>
 (bif x8 then
 (bif (K.slice host v p q).fst.halted then
 (Tree.leaf (SV.b false))
 else
 (bif v.halted then
 (bif v.halted then
 (Tree.letv (okO [AT.b]) (decide ((K.slice host v p q).snd = v)) fun x9 =>
 (bif x9 then
 (bif (BEq.beq (K.slice host v p q).fst.time host.time) then
 (Tree.leaf (SV.b true))
 else
 (Tree.leaf (SV.b false)))
 else
 (Tree.leaf (SV.b false))))
 else
 (Tree.leaf (SV.b false)))
 else
 (bif (decide ((K.slice host v p q).fst.core.regs = [(0 : Int), (0 : Int), (0 : Int), (0 : Int), (0 : Int), (0 : Int), (0 : Int), (0 : Int), (0 : Int), (0 : Int), (0 : Int), (0 : Int), (0 : Int), (0 : Int), (0 : Int), (0 : Int)])) then
 (bif (BEq.beq (K.slice host v p q).fst.core.pc (0 : Int)) then
 (Tree.letv (okO [AT.b]) (K.super (K.slice host v p q).fst.core) fun x9 =>
 (bif x9 then
 (Tree.leaf (SV.b true))
 else
 (bif v.halted then
 (Tree.letv (okO [AT.b]) (decide ((K.slice host v p q).snd = v)) fun x10 =>
 (bif x10 then
 (bif (BEq.beq (K.slice host v p q).fst.time host.time) then
 (Tree.leaf (SV.b true))
 else
 (Tree.leaf (SV.b false)))
 else
 (Tree.leaf (SV.b false))))
 else
 (Tree.leaf (SV.b false)))))
 else
 (bif v.halted then
 (Tree.letv (okO [AT.b]) (decide ((K.slice host v p q).snd = v)) fun x9 =>
 (bif x9 then
 (bif (BEq.beq (K.slice host v p q).fst.time host.time) then
 (Tree.leaf (SV.b true))
 else
 (Tree.leaf (SV.b false)))
 else
 (Tree.leaf (SV.b false))))
 else
 (Tree.leaf (SV.b false))))
 else
 (bif v.halted then
 (Tree.letv (okO [AT.b]) (decide ((K.slice host v p q).snd = v)) fun x9 =>
 (bif x9 then
 (bif (BEq.beq (K.slice host v p q).fst.time host.time) then
 (Tree.leaf (SV.b true))
 else
 (Tree.leaf (SV.b false)))
 else
 (Tree.leaf (SV.b false))))
 else
 (Tree.leaf (SV.b false))))))
 else
 (Tree.leaf (SV.b false))))
 else
 (Tree.leaf (SV.b false))))
 else
 (Tree.fail))
 else
 (Tree.leaf (SV.b false))))
 else
 (Tree.fail)))))))
 else
 (Tree.leaf (SV.b false)))))
 else
 (Tree.leaf (SV.b false)))
 else
 (bif (decide (x2.fst.time < host.time)) then
 (Tree.leaf (SV.b false))
 else
 (Tree.letv (okO [AT.b]) (K.vform x2.snd) fun x4 =>
 (bif x4 then
 (bif (bne (Int.ofNat (List.length x2.fst.mem)) (Int.ofNat (List.length host.mem))) then
 (Tree.leaf (SV.b false))
 else
 (bif (decide ((Int.ofNat (List.length x2.snd.out)) < (Int.ofNat (List.length v.out)))) then
 (Tree.leaf (SV.b false))
 else
 (bif (decide ((Int.ofNat (List.length x2.snd.log)) < (Int.ofNat (List.length v.log)))) then
 (Tree.leaf (SV.b false))
 else
 (Tree.loop 0 (L_law23f host v p q) [(SV.loc 0 0 0 1), (SV.loc 1 0 0 1), (SV.loc 2 0 0 1), (SV.b false), (SV.loc 3 0 0 1), (SV.loc 4 0 0 1), (SV.v (Value.int IntKind.i64 (0 : Int)))] [(Blk.cells [(SV.arr IntKind.u32 16 host.core.regs), (SV.v (Value.int IntKind.u32 host.core.pc)), (SV.arr IntKind.u32 12 host.core.csr), (SV.rd ETy.u8 host.mem), (SV.v (Value.int IntKind.u64 host.time)), (SV.rd ETy.u8 host.out), (SV.v (Value.bool host.halted))] 30), (Blk.cells [(SV.arr IntKind.u32 16 v.core.regs), (SV.v (Value.int IntKind.u32 v.core.pc)), (SV.arr IntKind.u32 12 v.core.csr), (SV.rd ETy.u8 v.out), (SV.v (Value.bool v.halted)), (SV.v (Value.int IntKind.i64 v.done)), (SV.rd ETy.event v.log)] 33), (Blk.cells [(SV.v (Value.int IntKind.u32 p.base)), (SV.v (Value.int IntKind.u32 p.size))] 35), (Blk.cells [(SV.arr IntKind.u32 16 x2.fst.core.regs), (SV.v (Value.int IntKind.u32 x2.fst.core.pc)), (SV.arr IntKind.u32 12 x2.fst.core.csr), (SV.rd ETy.u8 x2.fst.mem), (SV.v (Value.int IntKind.u64 x2.fst.time)), (SV.rd ETy.u8 x2.fst.out), (SV.v (Value.bool x2.fst.halted))] 30), (Blk.cells [(SV.arr IntKind.u32 16 x2.snd.core.regs), (SV.v (Value.int IntKind.u32 x2.snd.core.pc)), (SV.arr IntKind.u32 12 x2.snd.core.csr), (SV.rd ETy.u8 x2.snd.out), (SV.v (Value.bool x2.snd.halted)), (SV.v (Value.int IntKind.i64 x2.snd.done)), (SV.rd ETy.event x2.snd.log)] 33)] fun (x5 : Nat) =>
 (bif (decide ((Int.ofNat x5) < (Int.ofNat (List.length (K.slice host v p q).fst.mem)))) then
 (bif (inRange (Int.ofNat x5) (List.length (K.slice host v p q).fst.mem)) then
 (bif (inRange (Int.ofNat x5) (List.length host.mem)) then
 (bif (bne (List.getD (K.slice host v p q).fst.mem (Int.toNat (Int.ofNat x5)) (0 : Int)) (List.getD host.mem (Int.toNat (Int.ofNat x5)) (0 : Int))) then
 (bif (decide ((Int.ofNat x5) < (IntKind.wrap IntKind.i64 p.base))) then
 (Tree.leaf (SV.b false))
 else
 (bif (decide ((Int.ofNat x5) ≥ (IntKind.wrap IntKind.i64 ((IntKind.wrap IntKind.i64 p.base) + (IntKind.wrap IntKind.i64 p.size))))) then
 (Tree.leaf (SV.b false))
 else
 ((Tree.next 0 [(SV.loc 0 0 0 1), (SV.loc 1 0 0 1), (SV.loc 2 0 0 1), (SV.b false), (SV.loc 3 0 0 1), (SV.loc 4 0 0 1), (SV.v (Value.int IntKind.i64 (IntKind.wrap IntKind.i64 ((Int.ofNat x5) + (1 : Int)))))] [(Blk.cells [(SV.arr IntKind.u32 16 host.core.regs), (SV.v (Value.int IntKind.u32 host.core.pc)), (SV.arr IntKind.u32 12 host.core.csr), (SV.rd ETy.u8 host.mem), (SV.v (Value.int IntKind.u64 host.time)), (SV.rd ETy.u8 host.out), (SV.v (Value.bool host.halted))] 30), (Blk.cells [(SV.arr IntKind.u32 16 v.core.regs), (SV.v (Value.int IntKind.u32 v.core.pc)), (SV.arr IntKind.u32 12 v.core.csr), (SV.rd ETy.u8 v.out), (SV.v (Value.bool v.halted)), (SV.v (Value.int IntKind.i64 v.done)), (SV.rd ETy.event v.log)] 33), (Blk.cells [(SV.v (Value.int IntKind.u32 p.base)), (SV.v (Value.int IntKind.u32 p.size))] 35), (Blk.cells [(SV.arr IntKind.u32 16 (K.slice host v p q).fst.core.regs), (SV.v (Value.int IntKind.u32 (K.slice host v p q).fst.core.pc)), (SV.arr IntKind.u32 12 (K.slice host v p q).fst.core.csr), (SV.rd ETy.u8 (K.slice host v p q).fst.mem), (SV.v (Value.int IntKind.u64 (K.slice host v p q).fst.time)), (SV.rd ETy.u8 (K.slice host v p q).fst.out), (SV.v (Value.bool (K.slice host v p q).fst.halted))] 30), (Blk.cells [(SV.arr IntKind.u32 16 (K.slice host v p q).snd.core.regs), (SV.v (Value.int IntKind.u32 (K.slice host v p q).snd.core.pc)), (SV.arr IntKind.u32 12 (K.slice host v p q).snd.core.csr), (SV.rd ETy.u8 (K.slice host v p q).snd.out), (SV.v (Value.bool (K.slice host v p q).snd.halted)), (SV.v (Value.int IntKind.i64 (K.slice host v p q).snd.done)), (SV.rd ETy.event (K.slice host v p q).snd.log)] 33)]))))
 else
 ((Tree.next 0 [(SV.loc 0 0 0 1), (SV.loc 1 0 0 1), (SV.loc 2 0 0 1), (SV.b false), (SV.loc 3 0 0 1), (SV.loc 4 0 0 1), (SV.v (Value.int IntKind.i64 (IntKind.wrap IntKind.i64 ((Int.ofNat x5) + (1 : Int)))))] [(Blk.cells [(SV.arr IntKind.u32 16 host.core.regs), (SV.v (Value.int IntKind.u32 host.core.pc)), (SV.arr IntKind.u32 12 host.core.csr), (SV.rd ETy.u8 host.mem), (SV.v (Value.int IntKind.u64 host.time)), (SV.rd ETy.u8 host.out), (SV.v (Value.bool host.halted))] 30), (Blk.cells [(SV.arr IntKind.u32 16 v.core.regs), (SV.v (Value.int IntKind.u32 v.core.pc)), (SV.arr IntKind.u32 12 v.core.csr), (SV.rd ETy.u8 v.out), (SV.v (Value.bool v.halted)), (SV.v (Value.int IntKind.i64 v.done)), (SV.rd ETy.event v.log)] 33), (Blk.cells [(SV.v (Value.int IntKind.u32 p.base)), (SV.v (Value.int IntKind.u32 p.size))] 35), (Blk.cells [(SV.arr IntKind.u32 16 (K.slice host v p q).fst.core.regs), (SV.v (Value.int IntKind.u32 (K.slice host v p q).fst.core.pc)), (SV.arr IntKind.u32 12 (K.slice host v p q).fst.core.csr), (SV.rd ETy.u8 (K.slice host v p q).fst.mem), (SV.v (Value.int IntKind.u64 (K.slice host v p q).fst.time)), (SV.rd ETy.u8 (K.slice host v p q).fst.out), (SV.v (Value.bool (K.slice host v p q).fst.halted))] 30), (Blk.cells [(SV.arr IntKind.u32 16 (K.slice host v p q).snd.core.regs), (SV.v (Value.int IntKind.u32 (K.slice host v p q).snd.core.pc)), (SV.arr IntKind.u32 12 (K.slice host v p q).snd.core.csr), (SV.rd ETy.u8 (K.slice host v p q).snd.out), (SV.v (Value.bool (K.slice host v p q).snd.halted)), (SV.v (Value.int IntKind.i64 (K.slice host v p q).snd.done)), (SV.rd ETy.event (K.slice host v p q).snd.log)] 33)])))
 else
 (Tree.fail))
 else
 (Tree.fail))
 else
 (bif (Bool.and (decide ((0 : Int) ≤ (Int.ofNat (List.length v.out)))) (decide ((Int.ofNat (List.length v.out)) ≤ (Int.ofNat (List.length (K.slice host v p q).snd.out))))) then
 (Tree.letv (okO [AT.b]) (decide ((List.drop 0 (List.take (Int.toNat (Int.ofNat (List.length v.out))) (K.slice host v p q).snd.out)) = v.out)) fun x6 =>
 (bif x6 then
 (bif (Bool.and (decide ((0 : Int) ≤ (Int.ofNat (List.length v.log)))) (decide ((Int.ofNat (List.length v.log)) ≤ (Int.ofNat (List.length (K.slice host v p q).snd.log))))) then
 (Tree.letv (okO [AT.b]) (decide ((List.drop 0 (List.take (Int.toNat (Int.ofNat (List.length v.log))) (K.slice host v p q).snd.log)) = v.log)) fun x7 =>
 (bif x7 then
 (Tree.letv (okO [AT.b]) (decide ((K.slice host v p q).fst.out = host.out)) fun x8 =>
 (bif x8 then
 (bif (K.slice host v p q).fst.halted then
 (Tree.leaf (SV.b false))
 else
 (bif v.halted then
 (bif v.halted then
 (Tree.letv (okO [AT.b]) (decide ((K.slice host v p q).snd = v)) fun x9 =>
 (bif x9 then
 (bif (BEq.beq (K.slice host v p q).fst.time host.time) then
 (Tree.leaf (SV.b true))
 else
 (Tree.leaf (SV.b false)))
 else
 (Tree.leaf (SV.b false))))
 else
 (Tree.leaf (SV.b false)))
 else
 (bif (decide ((K.slice host v p q).fst.core.regs = [(0 : Int), (0 : Int), (0 : Int), (0 : Int), (0 : Int), (0 : Int), (0 : Int), (0 : Int), (0 : Int), (0 : Int), (0 : Int), (0 : Int), (0 : Int), (0 : Int), (0 : Int), (0 : Int)])) then
 (bif (BEq.beq (K.slice host v p q).fst.core.pc (0 : Int)) then
 (Tree.letv (okO [AT.b]) (K.super (K.slice host v p q).fst.core) fun x9 =>
 (bif x9 then
 (Tree.leaf (SV.b true))
 else
 (bif v.halted then
 (Tree.letv (okO [AT.b]) (decide ((K.slice host v p q).snd = v)) fun x10 =>
 (bif x10 then
 (bif (BEq.beq (K.slice host v p q).fst.time host.time) then
 (Tree.leaf (SV.b true))
 else
 (Tree.leaf (SV.b false)))
 else
 (Tree.leaf (SV.b false))))
 else
 (Tree.leaf (SV.b false)))))
 else
 (bif v.halted then
 (Tree.letv (okO [AT.b]) (decide ((K.slice host v p q).snd = v)) fun x9 =>
 (bif x9 then
 (bif (BEq.beq (K.slice host v p q).fst.time host.time) then
 (Tree.leaf (SV.b true))
 else
 (Tree.leaf (SV.b false)))
 else
 (Tree.leaf (SV.b false))))
 else
 (Tree.leaf (SV.b false))))
 else
 (bif v.halted then
 (Tree.letv (okO [AT.b]) (decide ((K.slice host v p q).snd = v)) fun x9 =>
 (bif x9 then
 (bif (BEq.beq (K.slice host v p q).fst.time host.time) then
 (Tree.leaf (SV.b true))
 else
 (Tree.leaf (SV.b false)))
 else
 (Tree.leaf (SV.b false))))
 else
 (Tree.leaf (SV.b false))))))
 else
 (Tree.leaf (SV.b false))))
 else
 (Tree.leaf (SV.b false))))
 else
 (Tree.fail))
 else
 (Tree.leaf (SV.b false))))
 else
 (Tree.fail)))))))
 else
 (Tree.leaf (SV.b false)))))))))))
 else
 (Tree.fail))
 else
 (Tree.letv (okO [AT.b]) true fun x2 =>
 (bif x2 then
 (Tree.leaf (SV.b true))
 else
 (Tree.leaf (SV.b false))))))
 else
 (Tree.letv (okO [AT.b]) true fun x1 =>
 (bif x1 then
 (Tree.leaf (SV.b true))
 else
 (Tree.leaf (SV.b false))))) := by kernel_rfl
section
attribute [local irreducible] evF evFL evFLs
theorem a_law23_TimeSliceFrame (host : PMach) (v : PVcpu) (p : PPart) (q : Int) (ok_host : okMach host) (ok_v : okVcpu v) (ok_p : okPart p) (ok_q : okI .i64 q) : (evFL E_law23_TimeSliceFrame (fun _ => some (L_law23f host v p q)) 60 8 (encArgs [.mach, .vcpu, .part, .i .i64] (host, v, p, q, ()))).ends fun out_ => decO [.b] out_ = some (true) := by
  rw [t_law23_TimeSliceFrame, Tree.ends_holds]
  obtain ⟨p0, p1⟩ := okI_u32 ok_p.base
  obtain ⟨q0, q1⟩ := okI_u32 ok_p.size
  obtain ⟨h0, h1⟩ := okI_u64 ok_host.time
  have w1 : IntKind.i64.wrap p.base = p.base := wrapI64 (by omega) (by omega)
  have w2 : IntKind.i64.wrap p.size = p.size := wrapI64 (by omega) (by omega)
  have w3 : IntKind.i64.wrap (p.base + p.size) = p.base + p.size := wrapI64 (by omega) (by omega)
  simp only [Tree.holds_loop, Tree.holds_fork, Tree.holds_next, if_true, Tree.holds_cond, Tree.holds_letv, Tree.holds_leaf, Tree.holds_fail, decO, decA, decTup, decMach, decCore, decTrap, decInstr, decPart, decGuest, decConf, decEvent, decVcpu, decStep, bytesS, boolS, eventsS, intsS, guestsS, vcpusS, rowS, castL, Option.bind_some, Option.map_some, Option.some.injEq, Nat.beq_refl, beq_self_eq_true, Bool.and_self, cond_true, cond_false, eq_self, beq_iff_eq, beq_eq_false_iff_ne, bne_iff_ne, bne_eq_false_iff_eq, ne_eq, decide_eq_true_eq, decide_eq_false_iff_not, ble_true, ble_false, inRange_iff, inRange_false, List.drop_zero, Int.ofNat_eq_natCast, Int.toNat_natCast, List.take_length, List.append_eq, Bool.and_eq_true, decide_true, and_true, true_and, Int.ofNat_eq_natCast, Int.toNat_natCast, w1, w2, w3]
  by_cases hc : K.fits23 host v p q = true
  rotate_left
  · repeat' (first | refine drop_ok ?_ | intro _ | with_reducible apply And.intro)
    all_goals first
      | trivial
      | exact absurd (by assumption) hc
  obtain ⟨a1, a2, a3, a4, a5, a6, a7, a8, a9, a10⟩ := fits23_at hc
  have S := slice_of (q := q) (good_of ok_host) ok_v.core a9 a1 p0 q0 a8 (by omega) a6 a7 (by omega)
  have dd : K.deadline host q = host.time + max q 1 := by unfold K.deadline; omega
  have w5 : IntKind.u64.wrap (host.time + max q 1 + 1) = host.time + max q 1 + 1 := by rw [wrap64]; omega
  have w4 : ∀ x : Nat, x < host.mem.length → IntKind.i64.wrap ((x : Int) + 1) = ((x + 1 : Nat) : Int) := fun x h1 => by rw [wrapI64 (by omega) (by omega)]; rfl
  have s1 := S.turns.done
  have s2 := S.turns.time
  have s3 := S.le
  have s4 := S.steps
  have s5 := S.turns.only.len
  have s6 := S.turns.only.out
  have s7 := S.turns.hout
  have s8 := S.go
  have s9 := S.form
  obtain ⟨lo, s10⟩ := S.turns.out
  obtain ⟨ll, s11, _⟩ := S.turns.log
  have s12 := S.clear
  have s13 : (K.slice host v p q).2.halted = false → host.time + max q 1 ≤ (K.slice host v p q).1.time := fun h => by
    rcases S.fin with q | q
    · rw [h] at q; cases q
    · exact q
  have s14 : v.halted = true → (K.slice host v p q).2 = v := fun h => (S.idle h).1
  have s15 : v.halted = true → (K.slice host v p q).1.time = host.time := fun h => (S.idle h).2.2
  have s16 := S.run
  have s17 : (K.slice host v p q).2.out.length = v.out.length + lo.length := by rw [s10, List.length_append]
  have s18 : (K.slice host v p q).2.log.length = v.log.length + ll.length := by rw [s11, List.length_append]
  have s19 : (K.slice host v p q).2.out.take v.out.length = v.out := by rw [s10, List.take_left']; rfl
  have s20 : (K.slice host v p q).2.log.take v.log.length = v.log := by rw [s11, List.take_left']; rfl
  have s21 : K.super (K.slice host v p q).1.core = true := by unfold K.super; rw [s12.2.2]; rfl
  simp only [dd, w5, s5, s9, s19, s20, s21]
  clear S
  repeat' (first | refine drop_ok ?_ | intro _ | with_reducible apply And.intro)
  all_goals first
    | trivial
    | (exfalso; omega)
    | exact law23f_at (i := 0) rfl (Nat.zero_le _) trivial
    | exact law23f_at (w4 _ (by omega)) (by omega) (Nat.sub_lt_sub_left (by omega) (Nat.lt_succ_self _))
    | (have := s16 (by assumption); exfalso; omega)
    | (have := s13 (by assumption); exfalso; omega)
    | (exfalso; refine absurd (s6 _ ?_) (by assumption); omega)
    | (exfalso; rename_i hq; apply hq; exact ⟨a1, by omega, by omega, by omega, by omega, by omega, by omega, by omega⟩)
    | (exfalso; exact absurd (s14 (by assumption)) (by assumption))
    | (exfalso; exact absurd (s15 (by assumption)) (by assumption))
    | (exfalso; rename_i hq; exact absurd rfl hq)
    | (exfalso; exact absurd s7 (by assumption))
    | (exfalso; exact absurd s12.1 (by assumption))
    | (exfalso; exact absurd s12.2.1 (by assumption))
    | (exfalso; rename_i hq; rw [s8] at hq; exact Bool.noConfusion hq)
    | (clear s6 s10 s11 s13 s19 s20 w4; simp_all; done)
    | trace_state
  
theorem c_law23_TimeSliceFrame : SpecOk EB_0_1_2 8 S_law23_TimeSliceFrame := spec_sigL ok_law23_TimeSliceFrame (n := 60) (fun (host, v, p, q, _) => fun _ => some (L_law23f host v p q)) fun ⟨host, v, p, q, ⟨⟩⟩ h hok => a_law23_TimeSliceFrame host v p q (ok_mach (okSL_head hok)) (ok_vcpu (okSL_head (okSL_tail hok))) (ok_part (okSL_head (okSL_tail (okSL_tail hok)))) (ok_int (okSL_head (okSL_tail (okSL_tail (okSL_tail hok)))))
end


end Go.Proofs.YtmbmahgaejcjiaaGreatDoor
