/- Contracts of functions, by evaluation (nothing is claimed here). -/
import Derived.Test.YtnhokcnnhmkbhaaDoorSh29
import Derived.KernelRfl
import Derived.Test.YtnhokcnnhmkbhaaDoorProg
import Derived.Test.YtnhokcnnhmkbhaaDoorHandlerHandleKeepsValidityB1
set_option linter.unusedVariables false
set_option linter.unusedSimpArgs false
set_option maxRecDepth 100000
set_option maxHeartbeats 1000000
namespace Go.Proofs.YtnhokcnnhmkbhaaDoor
open Go
/-! vcpu_WithMachine -/

def S_vcpu_WithMachine : Spec := sig [.vcpu, .mach] [.vcpu] (fun (v, m, _) => K.vwith v m)
noncomputable def E_vcpu_WithMachine : Env := EB.adds []

theorem ok_vcpu_WithMachine : EnvOk E_vcpu_WithMachine := okEB.adds (l := _) trivial

theorem t_vcpu_WithMachine (v : PVcpu) (m : PMach) : evF E_vcpu_WithMachine 60 36 (encArgs [.vcpu, .mach] (v, m, ())) = 
  bif m.halted then
    (Tree.leaf (SV.agg [(SV.arr IntKind.u32 16 m.core.regs), (SV.v (Value.int IntKind.u32 m.core.pc)), (SV.arr IntKind.u32 12 m.core.csr), (SV.rd ETy.u8 m.out), (SV.b true), (SV.v (Value.int IntKind.i64 v.done)), (SV.rd ETy.event v.log)]))
  else
    (Tree.leaf (SV.agg [(SV.arr IntKind.u32 16 m.core.regs), (SV.v (Value.int IntKind.u32 m.core.pc)), (SV.arr IntKind.u32 12 m.core.csr), (SV.rd ETy.u8 m.out), (SV.b false), (SV.v (Value.int IntKind.i64 v.done)), (SV.rd ETy.event v.log)])) := by kernel_rfl
theorem a_vcpu_WithMachine (v : PVcpu) (m : PMach) (ok_v : okVcpu v) (ok_m : okMach m) : (evF E_vcpu_WithMachine 60 36 (encArgs [.vcpu, .mach] (v, m, ()))).ends fun out_ => decO [.vcpu] out_ = some (K.vwith v m) := by
  rw [t_vcpu_WithMachine, Tree.ends_holds]
  simp only [Tree.holds_loop, Tree.holds_next, if_true, Tree.holds_cond, Tree.holds_letv, Tree.holds_leaf, Tree.holds_fail, decO, decA, decTup, decMach, decCore, decTrap, decInstr, decPart, decGuest, decConf, decEvent, decVcpu, bytesS, boolS, eventsS, intsS, guestsS, vcpusS, rowS, castL, Option.bind_some, Option.map_some, Option.some.injEq, Nat.beq_refl, beq_self_eq_true, Bool.and_self, cond_true, cond_false, eq_self, K.vwith]
  cases m.halted <;> simp
  
theorem c_vcpu_WithMachine : SpecOk EB 36 S_vcpu_WithMachine := spec_sig ok_vcpu_WithMachine (n := 60) fun ⟨v, m, ⟨⟩⟩ h hok => a_vcpu_WithMachine v m (ok_vcpu (okSL_head hok)) (ok_mach (okSL_head (okSL_tail hok)))

/-! regs_Get -/

def S_regs_Get : Spec := sig [.a .u32 16, .i .i64] [.i .u32] (fun (r, i, _) => K.get r i)
noncomputable def E_regs_Get : Env := EB.adds []

theorem ok_regs_Get : EnvOk E_regs_Get := okEB.adds (l := _) trivial

theorem t_regs_Get (r : List Int) (i : Int) : evF E_regs_Get 60 55 (encArgs [.a .u32 16, .i .i64] (r, i, ())) = 
  bif (decide (i > (0 : Int))) then
    (bif (decide (i < (16 : Int))) then
      (bif (inRange i 16) then
        (Tree.leaf (SV.v (Value.int IntKind.u32 (List.getD r ((Int.toNat i)) (0 : Int)))))
      else
        (Tree.fail))
    else
      (Tree.leaf (SV.v (Value.int IntKind.u32 (0 : Int)))))
  else
    (Tree.leaf (SV.v (Value.int IntKind.u32 (0 : Int)))) := by kernel_rfl
theorem a_regs_Get (r : List Int) (i : Int) (ok_r : okL .u32 16 r) (ok_i : okI .i64 i) : (evF E_regs_Get 60 55 (encArgs [.a .u32 16, .i .i64] (r, i, ()))).ends fun out_ => decO [.i .u32] out_ = some (K.get r i) := by
  rw [t_regs_Get, Tree.ends_holds]
  simp only [Tree.holds_loop, Tree.holds_next, if_true, Tree.holds_cond, Tree.holds_letv, Tree.holds_leaf, Tree.holds_fail, decO, decA, decTup, decMach, decCore, decTrap, decInstr, decPart, decGuest, decConf, decEvent, decVcpu, bytesS, boolS, eventsS, intsS, guestsS, vcpusS, rowS, castL, Option.bind_some, Option.map_some, Option.some.injEq, Nat.beq_refl, beq_self_eq_true, Bool.and_self, cond_true, cond_false, eq_self, K.get]
  grind [inRange]
  
theorem c_regs_Get : SpecOk EB 55 S_regs_Get := spec_sig ok_regs_Get (n := 60) fun ⟨r, i, ⟨⟩⟩ h hok => a_regs_Get r i (ok_arr (okSL_head hok)) (ok_int (okSL_head (okSL_tail hok)))

/-! regs_Set -/

def S_regs_Set : Spec := sig [.a .u32 16, .i .i64, .i .u32] [.a .u32 16] (fun (r, i, v, _) => K.put r i v)
noncomputable def E_regs_Set : Env := EB.adds []

theorem ok_regs_Set : EnvOk E_regs_Set := okEB.adds (l := _) trivial

theorem t_regs_Set (r : List Int) (i : Int) (v : Int) : evF E_regs_Set 60 57 (encArgs [.a .u32 16, .i .i64, .i .u32] (r, i, v, ())) = 
  bif (decide (i > (0 : Int))) then
    (bif (decide (i < (16 : Int))) then
      (bif (inRange i 16) then
        (Tree.leaf (SV.agg [(SV.arr IntKind.u32 16 (List.set r ((Int.toNat i)) v))]))
      else
        (Tree.fail))
    else
      (Tree.leaf (SV.agg [(SV.arr IntKind.u32 16 r)])))
  else
    (Tree.leaf (SV.agg [(SV.arr IntKind.u32 16 r)])) := by kernel_rfl
theorem a_regs_Set (r : List Int) (i : Int) (v : Int) (ok_r : okL .u32 16 r) (ok_i : okI .i64 i) (ok_v : okI .u32 v) : (evF E_regs_Set 60 57 (encArgs [.a .u32 16, .i .i64, .i .u32] (r, i, v, ()))).ends fun out_ => decO [.a .u32 16] out_ = some (K.put r i v) := by
  rw [t_regs_Set, Tree.ends_holds]
  simp only [Tree.holds_loop, Tree.holds_next, if_true, Tree.holds_cond, Tree.holds_letv, Tree.holds_leaf, Tree.holds_fail, decO, decA, decTup, decMach, decCore, decTrap, decInstr, decPart, decGuest, decConf, decEvent, decVcpu, bytesS, boolS, eventsS, intsS, guestsS, vcpusS, rowS, castL, Option.bind_some, Option.map_some, Option.some.injEq, Nat.beq_refl, beq_self_eq_true, Bool.and_self, cond_true, cond_false, eq_self, K.put]
  grind [inRange]
  
theorem c_regs_Set : SpecOk EB 57 S_regs_Set := spec_sig ok_regs_Set (n := 60) fun ⟨r, i, v, ⟨⟩⟩ h hok => a_regs_Set r i v (ok_arr (okSL_head hok)) (ok_int (okSL_head (okSL_tail hok))) (ok_int (okSL_head (okSL_tail (okSL_tail hok))))

/-! trap_Return -/

def S_trap_Return : Spec := sig [.core] [.core] (fun (c, _) => K.ret c)
noncomputable def E_trap_Return : Env := EB.adds []

theorem ok_trap_Return : EnvOk E_trap_Return := okEB.adds (l := _) trivial

theorem t_trap_Return (c : PCore) : evF E_trap_Return 60 56 (encArgs [.core] (c, ())) = 
  bif (bne (andI IntKind.u32 (List.getD c.csr 0 (0 : Int)) (4 : Int)) (0 : Int)) then
    (bif (bne (andI IntKind.u32 (List.getD c.csr 0 (0 : Int)) (8 : Int)) (0 : Int)) then
      (Tree.leaf (SV.agg [(SV.arr IntKind.u32 16 c.regs), (SV.v (Value.int IntKind.u32 (List.getD c.csr 1 (0 : Int)))), (SV.arr IntKind.u32 12 (List.set c.csr 0 (orI IntKind.u32 (orI IntKind.u32 (List.getD c.csr 0 (0 : Int)) (1 : Int)) (2 : Int))))]))
    else
      (Tree.leaf (SV.agg [(SV.arr IntKind.u32 16 c.regs), (SV.v (Value.int IntKind.u32 (List.getD c.csr 1 (0 : Int)))), (SV.arr IntKind.u32 12 (List.set c.csr 0 (andNotI IntKind.u32 (orI IntKind.u32 (List.getD c.csr 0 (0 : Int)) (1 : Int)) (2 : Int))))])))
  else
    (bif (bne (andI IntKind.u32 (List.getD c.csr 0 (0 : Int)) (8 : Int)) (0 : Int)) then
      (Tree.leaf (SV.agg [(SV.arr IntKind.u32 16 c.regs), (SV.v (Value.int IntKind.u32 (List.getD c.csr 1 (0 : Int)))), (SV.arr IntKind.u32 12 (List.set c.csr 0 (orI IntKind.u32 (andNotI IntKind.u32 (List.getD c.csr 0 (0 : Int)) (1 : Int)) (2 : Int))))]))
    else
      (Tree.leaf (SV.agg [(SV.arr IntKind.u32 16 c.regs), (SV.v (Value.int IntKind.u32 (List.getD c.csr 1 (0 : Int)))), (SV.arr IntKind.u32 12 (List.set c.csr 0 (andNotI IntKind.u32 (andNotI IntKind.u32 (List.getD c.csr 0 (0 : Int)) (1 : Int)) (2 : Int))))]))) := by kernel_rfl
theorem a_trap_Return (c : PCore) (ok_c : okCore c) : (evF E_trap_Return 60 56 (encArgs [.core] (c, ()))).ends fun out_ => decO [.core] out_ = some (K.ret c) := by
  rw [t_trap_Return, Tree.ends_holds]
  obtain ⟨s0, s1⟩ := ok_c.csr.u32 (i := 0) (by omega)
  simp only [Tree.holds_loop, Tree.holds_next, if_true, Tree.holds_cond, Tree.holds_letv, Tree.holds_leaf, Tree.holds_fail, decO, decA, decTup, decMach, decCore, decTrap, decInstr, decPart, decGuest, decConf, decEvent, decVcpu, bytesS, boolS, eventsS, intsS, guestsS, vcpusS, rowS, castL, Option.bind_some, Option.map_some, Option.some.injEq, Nat.beq_refl, beq_self_eq_true, Bool.and_self, cond_true, cond_false, eq_self, K.ret, K.retS]
  generalize c.csr.getD 0 0 = s at *
  simp only [and_4 s0 s1, and_8 s0 s1, or_1 s0 s1, andNot_1 s0 s1]
  have a2 : ∀ x : Int, 0 ≤ x → x < 4294967296 → orI .u32 x 2 = x + 2 * (1 - x / 2 % 2) := fun x h0 h1 => or_2 h0 h1
  have a3 : ∀ x : Int, 0 ≤ x → x < 4294967296 → andNotI .u32 x 2 = x - 2 * (x / 2 % 2) := fun x h0 h1 => andNot_2 h0 h1
  rw [a2 _ (by omega) (by omega), a2 _ (by omega) (by omega), a3 _ (by omega) (by omega), a3 _ (by omega) (by omega)]
  simp only [bne_iff_ne, ne_eq, bne_eq_false_iff_eq]
  refine ⟨fun h1 => ⟨fun h2 => ?_, fun h2 => ?_⟩, fun h1 => ⟨fun h2 => ?_, fun h2 => ?_⟩⟩ <;> (congr 2; omega)
  
theorem c_trap_Return : SpecOk EB 56 S_trap_Return := spec_sig ok_trap_Return (n := 60) fun ⟨c, ⟨⟩⟩ h hok => a_trap_Return c (ok_core (okSL_head hok))

/-! csr_Read -/

def S_csr_Read : Spec := sig [.a .u32 12, .i .u64, .i .i64] [.i .u32] (fun (c, time, n, _) => K.csrRead c time n)
noncomputable def E_csr_Read : Env := EB.adds []

theorem ok_csr_Read : EnvOk E_csr_Read := okEB.adds (l := _) trivial

theorem t_csr_Read (c : List Int) (time : Int) (n : Int) : evF E_csr_Read 60 58 (encArgs [.a .u32 12, .i .u64, .i .i64] (c, time, n, ())) = 
  bif (BEq.beq n (7 : Int)) then
    (Tree.leaf (SV.v (Value.int IntKind.u32 (IntKind.wrap IntKind.u32 time))))
  else
    (bif (BEq.beq n (8 : Int)) then
      (Tree.leaf (SV.v (Value.int IntKind.u32 (IntKind.wrap IntKind.u32 (Int.fdiv time (4294967296 : Int))))))
    else
      (bif (decide (n ≥ (0 : Int))) then
        (bif (decide (n < (12 : Int))) then
          (bif (inRange n 12) then
            (Tree.leaf (SV.v (Value.int IntKind.u32 (List.getD c ((Int.toNat n)) (0 : Int)))))
          else
            (Tree.fail))
        else
          (Tree.leaf (SV.v (Value.int IntKind.u32 (0 : Int)))))
      else
        (Tree.leaf (SV.v (Value.int IntKind.u32 (0 : Int)))))) := by kernel_rfl
theorem a_csr_Read (c : List Int) (time : Int) (n : Int) (ok_c : okL .u32 12 c) (ok_time : okI .u64 time) (ok_n : okI .i64 n) : (evF E_csr_Read 60 58 (encArgs [.a .u32 12, .i .u64, .i .i64] (c, time, n, ()))).ends fun out_ => decO [.i .u32] out_ = some (K.csrRead c time n) := by
  rw [t_csr_Read, Tree.ends_holds]
  obtain ⟨t0, t1⟩ := okI_u64 ok_time
  have e1 : IntKind.u32.wrap (Int.fdiv time 4294967296) = time / 4294967296 := by rw [Int.fdiv_eq_ediv_of_nonneg _ (by omega), wrap32]; omega
  simp only [Tree.holds_loop, Tree.holds_next, if_true, Tree.holds_cond, Tree.holds_letv, Tree.holds_leaf, Tree.holds_fail, decO, decA, decTup, decMach, decCore, decTrap, decInstr, decPart, decGuest, decConf, decEvent, decVcpu, bytesS, boolS, eventsS, intsS, guestsS, vcpusS, rowS, castL, Option.bind_some, Option.map_some, Option.some.injEq, Nat.beq_refl, beq_self_eq_true, Bool.and_self, cond_true, cond_false, eq_self, K.csrRead, e1, wrap32]
  grind [inRange]
  
theorem c_csr_Read : SpecOk EB 58 S_csr_Read := spec_sig ok_csr_Read (n := 60) fun ⟨c, time, n, ⟨⟩⟩ h hok => a_csr_Read c time n (ok_arr (okSL_head hok)) (ok_int (okSL_head (okSL_tail hok))) (ok_int (okSL_head (okSL_tail (okSL_tail hok))))

/-! csr_masks -/

def S_csr_masks : Spec := sig [] [.a .u32 12] (fun _ => K.mk)
noncomputable def E_csr_masks : Env := EB.adds []

theorem ok_csr_masks : EnvOk E_csr_masks := okEB.adds (l := _) trivial

theorem t_csr_masks : evF E_csr_masks 60 91 (encArgs [] ()) = 
  Tree.leaf (SV.agg [(SV.arr IntKind.u32 12 [(14 : Int), (4294967292 : Int), (4294967295 : Int), (4294967295 : Int), (4294967292 : Int), (4294967292 : Int), (4294967295 : Int), (0 : Int), (0 : Int), (4294967295 : Int), (4294967295 : Int), (4294967295 : Int)])]) := by kernel_rfl
theorem a_csr_masks : (evF E_csr_masks 60 91 (encArgs [] ())).ends fun out_ => decO [.a .u32 12] out_ = some (K.mk) := by
  rw [t_csr_masks, Tree.ends_holds]
  rfl
  
theorem c_csr_masks : SpecOk EB 91 S_csr_masks := spec_sig ok_csr_masks (n := 60) fun () h hok => a_csr_masks 

/-! csr_Write -/

def S_csr_Write : Spec := sig [.a .u32 12, .i .i64, .i .u32] [.a .u32 12] (fun (c, n, v, _) => K.csrWrite c n v)
noncomputable def E_csr_Write : Env := EB.adds [(91, S_csr_masks)]

theorem ok_csr_Write : EnvOk E_csr_Write := okEB.adds (l := _) ⟨c_csr_masks, trivial⟩

theorem t_csr_Write (c : List Int) (n : Int) (v : Int) : evF E_csr_Write 60 59 (encArgs [.a .u32 12, .i .i64, .i .u32] (c, n, v, ())) = 
  bif (decide (n ≥ (0 : Int))) then
    (bif (decide (n < (12 : Int))) then
      (bif (inRange n 12) then
        (Tree.letv (okO [(AT.a IntKind.u32 12)]) K.mk fun x0 =>
        (bif (inRange n 12) then
          (Tree.letv (okO [(AT.a IntKind.u32 12)]) K.mk fun x1 =>
          (bif (inRange n 12) then
            (bif (inRange n 12) then
              (Tree.leaf (SV.agg [(SV.arr IntKind.u32 12 (List.set c ((Int.toNat n)) (orI IntKind.u32 (andNotI IntKind.u32 (List.getD c ((Int.toNat n)) (0 : Int)) (List.getD x0 ((Int.toNat n)) (0 : Int))) (andI IntKind.u32 v (List.getD x1 ((Int.toNat n)) (0 : Int))))))]))
            else
              (Tree.fail))
          else
            (Tree.fail)))
        else
          (Tree.fail)))
      else
        (Tree.fail))
    else
      (Tree.leaf (SV.agg [(SV.arr IntKind.u32 12 c)])))
  else
    (Tree.leaf (SV.agg [(SV.arr IntKind.u32 12 c)])) := by kernel_rfl
theorem a_csr_Write (c : List Int) (n : Int) (v : Int) (ok_c : okL .u32 12 c) (ok_n : okI .i64 n) (ok_v : okI .u32 v) : (evF E_csr_Write 60 59 (encArgs [.a .u32 12, .i .i64, .i .u32] (c, n, v, ()))).ends fun out_ => decO [.a .u32 12] out_ = some (K.csrWrite c n v) := by
  rw [t_csr_Write, Tree.ends_holds]
  simp only [Tree.holds_loop, Tree.holds_next, if_true, Tree.holds_cond, Tree.holds_letv, Tree.holds_leaf, Tree.holds_fail, decO, decA, decTup, decMach, decCore, decTrap, decInstr, decPart, decGuest, decConf, decEvent, decVcpu, bytesS, boolS, eventsS, intsS, guestsS, vcpusS, rowS, castL, Option.bind_some, Option.map_some, Option.some.injEq, Nat.beq_refl, beq_self_eq_true, Bool.and_self, cond_true, cond_false, eq_self, K.csrWrite, K.mix]
  by_cases hn : 0 ≤ n ∧ n < 12
  · simp only [hn.1, hn.2, inRange_iff.2 (show 0 ≤ n ∧ n < ((12 : Nat) : Int) from hn), ge_iff_le, decide_true, and_self, if_true]; simp
  · simp only [if_neg hn, inRange_iff]
    refine ⟨fun h1 => ⟨fun h2 => absurd ⟨by simpa using h1, by simpa using h2⟩ hn, fun _ => trivial⟩, fun _ => trivial⟩
  
theorem c_csr_Write : SpecOk EB 59 S_csr_Write := spec_sig ok_csr_Write (n := 60) fun ⟨c, n, v, ⟨⟩⟩ h hok => a_csr_Write c n v (ok_arr (okSL_head hok)) (ok_int (okSL_head (okSL_tail hok))) (ok_int (okSL_head (okSL_tail (okSL_tail hok))))

/-! priv_Execute -/

def S_priv_Execute : Spec := sig [.mach, .instr] [.mach] (fun (m, i, _) => K.priv m i) (pre := fun (m, i, _) => decide (m.out.length ≤ 1099511627776))
noncomputable def E_priv_Execute : Env := EB.adds [(55, S_regs_Get), (57, S_regs_Set), (56, S_trap_Return), (58, S_csr_Read), (59, S_csr_Write)]

theorem ok_priv_Execute : EnvOk E_priv_Execute := okEB.adds (l := _) ⟨c_regs_Get, c_regs_Set, c_trap_Return, c_csr_Read, c_csr_Write, trivial⟩

theorem t_priv_Execute (m : PMach) (i : PInstr) : evF E_priv_Execute 60 37 (encArgs [.mach, .instr] (m, i, ())) = 
  Tree.letv (okO [(AT.i IntKind.u32)]) (K.get m.core.regs i.ra) fun x0 =>
  (bif (BEq.beq i.op (23 : Int)) then
    (Tree.letv (okO [AT.core]) (K.ret m.core) fun x1 =>
    (Tree.leaf (SV.agg [(SV.arr IntKind.u32 16 x1.regs), (SV.v (Value.int IntKind.u32 x1.pc)), (SV.arr IntKind.u32 12 x1.csr), (SV.rd ETy.u8 m.mem), (SV.v (Value.int IntKind.u64 m.time)), (SV.rd ETy.u8 m.out), (SV.v (Value.bool m.halted))])))
  else
    (bif (BEq.beq i.op (21 : Int)) then
      (Tree.letv (okO [(AT.i IntKind.u32)]) (K.csrRead m.core.csr m.time (IntKind.wrap IntKind.i64 i.imm)) fun x1 =>
      (Tree.letv (okO [(AT.a IntKind.u32 16)]) (K.put m.core.regs i.rd x1) fun x2 =>
      (Tree.leaf (SV.agg [(SV.arr IntKind.u32 16 x2), (SV.v (Value.int IntKind.u32 (IntKind.wrap IntKind.u32 (m.core.pc + (4 : Int))))), (SV.arr IntKind.u32 12 m.core.csr), (SV.rd ETy.u8 m.mem), (SV.v (Value.int IntKind.u64 m.time)), (SV.rd ETy.u8 m.out), (SV.v (Value.bool m.halted))]))))
    else
      (bif (BEq.beq i.op (22 : Int)) then
        (Tree.letv (okO [(AT.a IntKind.u32 12)]) (K.csrWrite m.core.csr (IntKind.wrap IntKind.i64 i.imm) x0) fun x1 =>
        (Tree.leaf (SV.agg [(SV.arr IntKind.u32 16 m.core.regs), (SV.v (Value.int IntKind.u32 (IntKind.wrap IntKind.u32 (m.core.pc + (4 : Int))))), (SV.arr IntKind.u32 12 x1), (SV.rd ETy.u8 m.mem), (SV.v (Value.int IntKind.u64 m.time)), (SV.rd ETy.u8 m.out), (SV.v (Value.bool m.halted))])))
      else
        (bif (BEq.beq i.op (24 : Int)) then
          (Tree.leaf (SV.agg [(SV.arr IntKind.u32 16 m.core.regs), (SV.v (Value.int IntKind.u32 (IntKind.wrap IntKind.u32 (m.core.pc + (4 : Int))))), (SV.arr IntKind.u32 12 m.core.csr), (SV.rd ETy.u8 m.mem), (SV.v (Value.int IntKind.u64 m.time)), (SV.rd ETy.u8 m.out), (SV.b true)]))
        else
          (bif (BEq.beq i.op (25 : Int)) then
            (bif (Bool.and (decide ((0 : Int) ≤ (Int.ofNat (List.length m.out)))) (Bool.and (decide ((Int.ofNat (List.length m.out)) ≤ (Int.ofNat (List.length m.out)))) (decide ((Int.ofNat (List.length m.out)) = (Int.ofNat (List.length m.out)))))) then
              (bif (Nat.ble (((List.length (List.drop 0 (List.take (Int.toNat (Int.ofNat (List.length m.out))) m.out))) + 1) * 1) 140737488355328) then
                (Tree.leaf (SV.agg [(SV.arr IntKind.u32 16 m.core.regs), (SV.v (Value.int IntKind.u32 (IntKind.wrap IntKind.u32 (m.core.pc + (4 : Int))))), (SV.arr IntKind.u32 12 m.core.csr), (SV.rd ETy.u8 m.mem), (SV.v (Value.int IntKind.u64 m.time)), (SV.rd ETy.u8 (List.append (List.drop 0 (List.take (Int.toNat (Int.ofNat (List.length m.out))) m.out)) [(IntKind.wrap IntKind.u8 x0)])), (SV.v (Value.bool m.halted))]))
              else
                (Tree.fail))
            else
              (Tree.fail))
          else
            (Tree.leaf (SV.agg [(SV.arr IntKind.u32 16 m.core.regs), (SV.v (Value.int IntKind.u32 (IntKind.wrap IntKind.u32 (m.core.pc + (4 : Int))))), (SV.arr IntKind.u32 12 m.core.csr), (SV.rd ETy.u8 m.mem), (SV.v (Value.int IntKind.u64 m.time)), (SV.rd ETy.u8 m.out), (SV.v (Value.bool m.halted))]))))))) := by kernel_rfl
theorem a_priv_Execute (m : PMach) (i : PInstr) (hpre : m.out.length ≤ 1099511627776) (ok_m : okMach m) (ok_i : okInstr i) : (evF E_priv_Execute 60 37 (encArgs [.mach, .instr] (m, i, ()))).ends fun out_ => decO [.mach] out_ = some (K.priv m i) := by
  rw [t_priv_Execute, Tree.ends_holds]
  obtain ⟨a, b⟩ := okI_i32 ok_i.imm
  have e1 : IntKind.i64.wrap i.imm = i.imm := wrapI64 (by omega) (by omega)
  obtain ⟨g0, g1⟩ := K.get_ok ok_m.core.regs i.ra
  have e2 : Int.tmod (K.get m.core.regs i.ra) 256 = K.get m.core.regs i.ra % 256 := Int.tmod_eq_emod_of_nonneg g0
  simp only [Tree.holds_loop, Tree.holds_next, if_true, Tree.holds_cond, Tree.holds_letv, Tree.holds_leaf, Tree.holds_fail, decO, decA, decTup, decMach, decCore, decTrap, decInstr, decPart, decGuest, decConf, decEvent, decVcpu, bytesS, boolS, eventsS, intsS, guestsS, vcpusS, rowS, castL, Option.bind_some, Option.map_some, Option.some.injEq, Nat.beq_refl, beq_self_eq_true, Bool.and_self, cond_true, cond_false, eq_self, e1, e2, wrap8, wrap32, beq_iff_eq, beq_eq_false_iff_ne, bne_iff_ne, bne_eq_false_iff_eq, ne_eq, decide_eq_true_eq, decide_eq_false_iff_not, ble_true, ble_false, inRange_iff, inRange_false, List.drop_zero, Int.ofNat_eq_natCast, Int.toNat_natCast, List.take_length, List.append_eq, Bool.and_eq_true, decide_true, and_true, true_and, Int.emod_emod]
  repeat' (first | refine drop_ok ?_ | intro _ | with_reducible apply And.intro)
  all_goals first | omega | (simp_all [K.priv, K.adv]; done) | skip
  
theorem c_priv_Execute : SpecOk EB 37 S_priv_Execute := spec_sig ok_priv_Execute (n := 60) fun ⟨m, i, ⟨⟩⟩ h hok => a_priv_Execute m i (of_decide_eq_true h) (ok_mach (okSL_head hok)) (ok_instr (okSL_head (okSL_tail hok)))

/-! vcpu_Machine -/

def S_vcpu_Machine : Spec := sig [.vcpu, .rd .u8, .i .u64] [.mach] (fun (v, mem, time, _) => K.vmach v mem time)
noncomputable def E_vcpu_Machine : Env := EB.adds []

theorem ok_vcpu_Machine : EnvOk E_vcpu_Machine := okEB.adds (l := _) trivial

theorem t_vcpu_Machine (v : PVcpu) (mem : List Int) (time : Int) : evF E_vcpu_Machine 60 38 (encArgs [.vcpu, .rd .u8, .i .u64] (v, mem, time, ())) = 
  bif v.halted then
    (Tree.leaf (SV.agg [(SV.arr IntKind.u32 16 v.core.regs), (SV.v (Value.int IntKind.u32 v.core.pc)), (SV.arr IntKind.u32 12 v.core.csr), (SV.rd ETy.u8 mem), (SV.v (Value.int IntKind.u64 time)), (SV.rd ETy.u8 v.out), (SV.b true)]))
  else
    (Tree.leaf (SV.agg [(SV.arr IntKind.u32 16 v.core.regs), (SV.v (Value.int IntKind.u32 v.core.pc)), (SV.arr IntKind.u32 12 v.core.csr), (SV.rd ETy.u8 mem), (SV.v (Value.int IntKind.u64 time)), (SV.rd ETy.u8 v.out), (SV.b false)])) := by kernel_rfl
theorem a_vcpu_Machine (v : PVcpu) (mem : List Int) (time : Int) (ok_v : okVcpu v) (ok_mem : okBytes mem) (ok_time : okI .u64 time) : (evF E_vcpu_Machine 60 38 (encArgs [.vcpu, .rd .u8, .i .u64] (v, mem, time, ()))).ends fun out_ => decO [.mach] out_ = some (K.vmach v mem time) := by
  rw [t_vcpu_Machine, Tree.ends_holds]
  simp only [Tree.holds_loop, Tree.holds_next, if_true, Tree.holds_cond, Tree.holds_letv, Tree.holds_leaf, Tree.holds_fail, decO, decA, decTup, decMach, decCore, decTrap, decInstr, decPart, decGuest, decConf, decEvent, decVcpu, bytesS, boolS, eventsS, intsS, guestsS, vcpusS, rowS, castL, Option.bind_some, Option.map_some, Option.some.injEq, Nat.beq_refl, beq_self_eq_true, Bool.and_self, cond_true, cond_false, eq_self, K.vmach]
  cases v.halted <;> simp
  
theorem c_vcpu_Machine : SpecOk EB 38 S_vcpu_Machine := spec_sig ok_vcpu_Machine (n := 60) fun ⟨v, mem, time, ⟨⟩⟩ h hok => a_vcpu_Machine v mem time (ok_vcpu (okSL_head hok)) (ok_bytes (okSL_head (okSL_tail hok))) (ok_int (okSL_head (okSL_tail (okSL_tail hok))))

/-! emul_Emulate -/

def S_emul_Emulate : Spec := sig [.vcpu, .i .u32, .i .u64] [.vcpu] (fun (v, w, time, _) => K.emu v w time) (pre := fun (v, w, time, _) => decide (v.out.length ≤ 1099511627776 ∧ v.log.length ≤ 1099511627776))
noncomputable def E_emul_Emulate : Env := EB_0_1.adds [(33, S_emul_of), (34, S_priv_ReadsTime), (35, S_emul_seen), (36, S_vcpu_WithMachine), (37, S_priv_Execute), (38, S_vcpu_Machine)]

theorem ok_emul_Emulate : EnvOk E_emul_Emulate := okEB_0_1.adds (l := _) ⟨c_emul_of, (up_to_0_1 c_priv_ReadsTime), (up_to_0_1 c_emul_seen), (up_to_0_1 c_vcpu_WithMachine), (up_to_0_1 c_priv_Execute), (up_to_0_1 c_vcpu_Machine), trivial⟩

theorem t_emul_Emulate (v : PVcpu) (w : Int) (time : Int) : evF E_emul_Emulate 60 14 (encArgs [.vcpu, .i .u32, .i .u64] (v, w, time, ())) = 
  Tree.letv (okO [AT.instr, AT.b]) ((K.decode w).fst, (K.isPriv w)) fun x0 =>
  (bif x0.snd then
    (Tree.letv (okO [AT.b]) (K.reads x0.fst) fun x1 =>
    (bif x1 then
      (bif (Bool.and (decide ((0 : Int) ≤ (Int.ofNat (List.length v.log)))) (Bool.and (decide ((Int.ofNat (List.length v.log)) ≤ (Int.ofNat (List.length v.log)))) (decide ((Int.ofNat (List.length v.log)) = (Int.ofNat (List.length v.log)))))) then
        (Tree.letv (okO [AT.event]) (K.seen x0.fst v.done time) fun x2 =>
        (bif (Nat.ble (((List.length (List.drop 0 (List.take (Int.toNat (Int.ofNat (List.length v.log))) v.log))) + 1) * 24) 140737488355328) then
          (Tree.letv (okO [AT.mach]) (K.vmach (PVcpu.mk v.core v.out v.halted v.done (List.append (List.drop 0 (List.take (Int.toNat (Int.ofNat (List.length v.log))) v.log)) [x2])) [] time) fun x3 =>
          (bif (decide ((List.length x3.out) ≤ 1099511627776)) then
            (Tree.letv (okO [AT.mach]) (K.priv x3 x0.fst) fun x4 =>
            (Tree.letv (okO [AT.vcpu]) (K.vwith (PVcpu.mk v.core v.out v.halted v.done (List.append (List.drop 0 (List.take (Int.toNat (Int.ofNat (List.length v.log))) v.log)) [x2])) x4) fun x5 =>
            (Tree.leaf (SV.agg [(SV.arr IntKind.u32 16 x5.core.regs), (SV.v (Value.int IntKind.u32 x5.core.pc)), (SV.arr IntKind.u32 12 x5.core.csr), (SV.rd ETy.u8 x5.out), (SV.v (Value.bool x5.halted)), (SV.v (Value.int IntKind.i64 (IntKind.wrap IntKind.i64 (x5.done + (1 : Int))))), (SV.rd ETy.event x5.log)]))))
          else
            (Tree.fail)))
        else
          (Tree.fail)))
      else
        (Tree.fail))
    else
      (Tree.letv (okO [AT.mach]) (K.vmach v [] time) fun x2 =>
      (bif (decide ((List.length x2.out) ≤ 1099511627776)) then
        (Tree.letv (okO [AT.mach]) (K.priv x2 x0.fst) fun x3 =>
        (Tree.letv (okO [AT.vcpu]) (K.vwith v x3) fun x4 =>
        (Tree.leaf (SV.agg [(SV.arr IntKind.u32 16 x4.core.regs), (SV.v (Value.int IntKind.u32 x4.core.pc)), (SV.arr IntKind.u32 12 x4.core.csr), (SV.rd ETy.u8 x4.out), (SV.v (Value.bool x4.halted)), (SV.v (Value.int IntKind.i64 (IntKind.wrap IntKind.i64 (x4.done + (1 : Int))))), (SV.rd ETy.event x4.log)]))))
      else
        (Tree.fail)))))
  else
    (Tree.leaf (SV.agg [(SV.arr IntKind.u32 16 v.core.regs), (SV.v (Value.int IntKind.u32 v.core.pc)), (SV.arr IntKind.u32 12 v.core.csr), (SV.rd ETy.u8 v.out), (SV.v (Value.bool v.halted)), (SV.v (Value.int IntKind.i64 v.done)), (SV.rd ETy.event v.log)]))) := by kernel_rfl
theorem a_emul_Emulate (v : PVcpu) (w : Int) (time : Int) (hpre : v.out.length ≤ 1099511627776 ∧ v.log.length ≤ 1099511627776) (ok_v : okVcpu v) (ok_w : okI .u32 w) (ok_time : okI .u64 time) : (evF E_emul_Emulate 60 14 (encArgs [.vcpu, .i .u32, .i .u64] (v, w, time, ()))).ends fun out_ => decO [.vcpu] out_ = some (K.emu v w time) := by
  rw [t_emul_Emulate, Tree.ends_holds]
  simp only [Tree.holds_loop, Tree.holds_next, if_true, Tree.holds_cond, Tree.holds_letv, Tree.holds_leaf, Tree.holds_fail, decO, decA, decTup, decMach, decCore, decTrap, decInstr, decPart, decGuest, decConf, decEvent, decVcpu, bytesS, boolS, eventsS, intsS, guestsS, vcpusS, rowS, castL, Option.bind_some, Option.map_some, Option.some.injEq, Nat.beq_refl, beq_self_eq_true, Bool.and_self, cond_true, cond_false, eq_self, beq_iff_eq, beq_eq_false_iff_ne, bne_iff_ne, bne_eq_false_iff_eq, ne_eq, decide_eq_true_eq, decide_eq_false_iff_not, ble_true, ble_false, inRange_iff, inRange_false, List.drop_zero, Int.ofNat_eq_natCast, Int.toNat_natCast, List.take_length, List.append_eq, Bool.and_eq_true, decide_true, and_true, true_and, K.vwith, K.vmach, wrap_inc ok_v.done]
  have e1 : K.isPriv w = true → K.emu v w time = (let i := (K.decode w).1; let m := K.priv (K.vmach v [] time) i; { core := m.core, out := m.out, halted := m.halted, done := K.inc v.done, log := if K.reads i = true then v.log ++ [K.seen i v.done time] else v.log }) := fun h => by unfold K.emu; rw [if_pos h]
  have e2 : K.isPriv w = false → K.emu v w time = v := fun h => by unfold K.emu; rw [if_neg (by rw [h]; decide)]
  simp only [K.vmach] at e1
  repeat' (first | refine drop_ok ?_ | intro _ | with_reducible apply And.intro)
  all_goals first | omega | (rw [e1 (by assumption)]; simp_all; done) | (rw [e2 (by assumption)]) | (clear e1 e2; simp_all; done) | (clear e1 e2; simp_all; omega)
  
theorem c_emul_Emulate : SpecOk EB_0_1 14 S_emul_Emulate := spec_sig ok_emul_Emulate (n := 60) fun ⟨v, w, time, ⟨⟩⟩ h hok => a_emul_Emulate v w time (of_decide_eq_true h) (ok_vcpu (okSL_head hok)) (ok_int (okSL_head (okSL_tail hok))) (ok_int (okSL_head (okSL_tail (okSL_tail hok))))

/-! trap_Enter -/

def S_trap_Enter : Spec := sig [.core, .trap] [.core] (fun (c, t, _) => K.enter c t)
noncomputable def E_trap_Enter : Env := EB.adds []

theorem ok_trap_Enter : EnvOk E_trap_Enter := okEB.adds (l := _) trivial

theorem t_trap_Enter (c : PCore) (t : PTrap) : evF E_trap_Enter 60 77 (encArgs [.core, .trap] (c, t, ())) = 
  bif (BEq.beq t.cause (0 : Int)) then
    (Tree.leaf (SV.agg [(SV.arr IntKind.u32 16 c.regs), (SV.v (Value.int IntKind.u32 c.pc)), (SV.arr IntKind.u32 12 c.csr)]))
  else
    (bif (bne (andI IntKind.u32 (List.getD (List.set (List.set (List.set c.csr 1 c.pc) 2 (IntKind.wrap IntKind.u32 t.cause)) 3 t.tval) 0 (0 : Int)) (1 : Int)) (0 : Int)) then
      (bif (bne (andI IntKind.u32 (List.getD (List.set (List.set (List.set c.csr 1 c.pc) 2 (IntKind.wrap IntKind.u32 t.cause)) 3 t.tval) 0 (0 : Int)) (2 : Int)) (0 : Int)) then
        (Tree.leaf (SV.agg [(SV.arr IntKind.u32 16 c.regs), (SV.v (Value.int IntKind.u32 (List.getD (List.set (List.set (List.set c.csr 1 c.pc) 2 (IntKind.wrap IntKind.u32 t.cause)) 3 t.tval) 4 (0 : Int)))), (SV.arr IntKind.u32 12 (List.set (List.set (List.set (List.set c.csr 1 c.pc) 2 (IntKind.wrap IntKind.u32 t.cause)) 3 t.tval) 0 (andNotI IntKind.u32 (orI IntKind.u32 (orI IntKind.u32 (orI IntKind.u32 (List.getD (List.set (List.set (List.set c.csr 1 c.pc) 2 (IntKind.wrap IntKind.u32 t.cause)) 3 t.tval) 0 (0 : Int)) (4 : Int)) (8 : Int)) (1 : Int)) (2 : Int))))]))
      else
        (Tree.leaf (SV.agg [(SV.arr IntKind.u32 16 c.regs), (SV.v (Value.int IntKind.u32 (List.getD (List.set (List.set (List.set c.csr 1 c.pc) 2 (IntKind.wrap IntKind.u32 t.cause)) 3 t.tval) 4 (0 : Int)))), (SV.arr IntKind.u32 12 (List.set (List.set (List.set (List.set c.csr 1 c.pc) 2 (IntKind.wrap IntKind.u32 t.cause)) 3 t.tval) 0 (andNotI IntKind.u32 (orI IntKind.u32 (andNotI IntKind.u32 (orI IntKind.u32 (List.getD (List.set (List.set (List.set c.csr 1 c.pc) 2 (IntKind.wrap IntKind.u32 t.cause)) 3 t.tval) 0 (0 : Int)) (4 : Int)) (8 : Int)) (1 : Int)) (2 : Int))))])))
    else
      (bif (bne (andI IntKind.u32 (List.getD (List.set (List.set (List.set c.csr 1 c.pc) 2 (IntKind.wrap IntKind.u32 t.cause)) 3 t.tval) 0 (0 : Int)) (2 : Int)) (0 : Int)) then
        (Tree.leaf (SV.agg [(SV.arr IntKind.u32 16 c.regs), (SV.v (Value.int IntKind.u32 (List.getD (List.set (List.set (List.set c.csr 1 c.pc) 2 (IntKind.wrap IntKind.u32 t.cause)) 3 t.tval) 4 (0 : Int)))), (SV.arr IntKind.u32 12 (List.set (List.set (List.set (List.set c.csr 1 c.pc) 2 (IntKind.wrap IntKind.u32 t.cause)) 3 t.tval) 0 (andNotI IntKind.u32 (orI IntKind.u32 (orI IntKind.u32 (andNotI IntKind.u32 (List.getD (List.set (List.set (List.set c.csr 1 c.pc) 2 (IntKind.wrap IntKind.u32 t.cause)) 3 t.tval) 0 (0 : Int)) (4 : Int)) (8 : Int)) (1 : Int)) (2 : Int))))]))
      else
        (Tree.leaf (SV.agg [(SV.arr IntKind.u32 16 c.regs), (SV.v (Value.int IntKind.u32 (List.getD (List.set (List.set (List.set c.csr 1 c.pc) 2 (IntKind.wrap IntKind.u32 t.cause)) 3 t.tval) 4 (0 : Int)))), (SV.arr IntKind.u32 12 (List.set (List.set (List.set (List.set c.csr 1 c.pc) 2 (IntKind.wrap IntKind.u32 t.cause)) 3 t.tval) 0 (andNotI IntKind.u32 (orI IntKind.u32 (andNotI IntKind.u32 (andNotI IntKind.u32 (List.getD (List.set (List.set (List.set c.csr 1 c.pc) 2 (IntKind.wrap IntKind.u32 t.cause)) 3 t.tval) 0 (0 : Int)) (4 : Int)) (8 : Int)) (1 : Int)) (2 : Int))))])))) := by kernel_rfl
theorem a_trap_Enter (c : PCore) (t : PTrap) (ok_c : okCore c) (ok_t : okTrap t) : (evF E_trap_Enter 60 77 (encArgs [.core, .trap] (c, t, ()))).ends fun out_ => decO [.core] out_ = some (K.enter c t) := by
  rw [t_trap_Enter, Tree.ends_holds]
  obtain ⟨s0, s1⟩ := ok_c.csr.u32 (i := 0) (by omega)
  obtain ⟨a0, a1, a2, a3, a4, a5, a6, a7, a8, a9, a10, a11, hc⟩ := list12 ok_c.csr.1
  have hs : c.csr.getD 0 0 = a0 := by rw [hc]; rfl
  rw [hs] at s0 s1
  simp only [Tree.holds_loop, Tree.holds_next, if_true, Tree.holds_cond, Tree.holds_letv, Tree.holds_leaf, Tree.holds_fail, decO, decA, decTup, decMach, decCore, decTrap, decInstr, decPart, decGuest, decConf, decEvent, decVcpu, bytesS, boolS, eventsS, intsS, guestsS, vcpusS, rowS, castL, Option.bind_some, Option.map_some, Option.some.injEq, Nat.beq_refl, beq_self_eq_true, Bool.and_self, cond_true, cond_false, eq_self, beq_iff_eq, beq_eq_false_iff_ne, bne_iff_ne, bne_eq_false_iff_eq, ne_eq, decide_eq_true_eq, decide_eq_false_iff_not, ble_true, ble_false, inRange_iff, inRange_false, K.enter, hc, wrap32]
  simp only [List.set_cons_zero, List.set_cons_succ, List.getD_cons_zero, List.getD_cons_succ]
  simp only [and_1 s0 s1, and_2 s0 s1]
  refine ⟨fun h => ?_, fun h => ?_⟩
  · rw [if_pos h, ← hc]
  rw [if_neg h]
  unfold K.enterS
  repeat' (first | refine drop_ok ?_ | intro _ | with_reducible apply And.intro)
  all_goals
    simp only [PCore.mk.injEq, List.cons.injEq, and_true, true_and]
    show @Eq Int _ _
    first
      | (rw [or_4 s0 s1, or_8 (by omega) (by omega), or_1 (by omega) (by omega), andNot_2 (by omega) (by omega)]; omega)
      | (rw [or_4 s0 s1, andNot_8 (by omega) (by omega), or_1 (by omega) (by omega), andNot_2 (by omega) (by omega)]; omega)
      | (rw [andNot_4 s0 s1, or_8 (by omega) (by omega), or_1 (by omega) (by omega), andNot_2 (by omega) (by omega)]; omega)
      | (rw [andNot_4 s0 s1, andNot_8 (by omega) (by omega), or_1 (by omega) (by omega), andNot_2 (by omega) (by omega)]; omega)
  
theorem c_trap_Enter : SpecOk EB 77 S_trap_Enter := spec_sig ok_trap_Enter (n := 60) fun ⟨c, t, ⟨⟩⟩ h hok => a_trap_Enter c t (ok_core (okSL_head hok)) (ok_trap (okSL_head (okSL_tail hok)))

/-! vtrap_enter -/

def S_vtrap_enter : Spec := sig [.vcpu, .trap, .rd .event] [.vcpu] (fun (v, t, seen, _) => { core := K.enter v.core t, out := v.out, halted := v.halted, done := K.inc v.done, log := v.log }) (pre := fun (v, t, seen, _) => decide (seen.length = 0))
noncomputable def E_vtrap_enter : Env := EB.adds [(77, S_trap_Enter)]

theorem ok_vtrap_enter : EnvOk E_vtrap_enter := okEB.adds (l := _) ⟨c_trap_Enter, trivial⟩

theorem t_vtrap_enter (v : PVcpu) (t : PTrap) (seen : List PEvent) : evF E_vtrap_enter 60 48 (encArgs [.vcpu, .trap, .rd .event] (v, t, seen, ())) = 
  Tree.letv (okO [AT.core]) (K.enter v.core t) fun x0 =>
  (bif (decide ((Int.ofNat (List.length seen)) > (0 : Int))) then
    (bif (decide ((IntKind.wrap IntKind.i64 ((0 : Int) + (Int.ofNat (List.length v.log)))) < (0 : Int))) then
      (Tree.fail)
    else
      (bif (decide ((IntKind.wrap IntKind.i64 ((IntKind.wrap IntKind.i64 ((0 : Int) + (Int.ofNat (List.length v.log)))) + (Int.ofNat (List.length seen)))) < (0 : Int))) then
        (Tree.fail)
      else
        (bif (decide ((IntKind.wrap IntKind.i64 ((IntKind.wrap IntKind.i64 ((0 : Int) + (Int.ofNat (List.length v.log)))) + (Int.ofNat (List.length seen)))) < (0 : Int))) then
          (Tree.fail)
        else
          (Tree.fail))))
  else
    (Tree.leaf (SV.agg [(SV.arr IntKind.u32 16 x0.regs), (SV.v (Value.int IntKind.u32 x0.pc)), (SV.arr IntKind.u32 12 x0.csr), (SV.rd ETy.u8 v.out), (SV.v (Value.bool v.halted)), (SV.v (Value.int IntKind.i64 (IntKind.wrap IntKind.i64 (v.done + (1 : Int))))), (SV.rd ETy.event v.log)]))) := by kernel_rfl
theorem a_vtrap_enter (v : PVcpu) (t : PTrap) (seen : List PEvent) (hpre : seen.length = 0) (ok_v : okVcpu v) (ok_t : okTrap t) (ok_seen : okEvents seen) : (evF E_vtrap_enter 60 48 (encArgs [.vcpu, .trap, .rd .event] (v, t, seen, ()))).ends fun out_ => decO [.vcpu] out_ = some ({ core := K.enter v.core t, out := v.out, halted := v.halted, done := K.inc v.done, log := v.log }) := by
  rw [t_vtrap_enter, Tree.ends_holds]
  simp only [Tree.holds_loop, Tree.holds_next, if_true, Tree.holds_cond, Tree.holds_letv, Tree.holds_leaf, Tree.holds_fail, decO, decA, decTup, decMach, decCore, decTrap, decInstr, decPart, decGuest, decConf, decEvent, decVcpu, bytesS, boolS, eventsS, intsS, guestsS, vcpusS, rowS, castL, Option.bind_some, Option.map_some, Option.some.injEq, Nat.beq_refl, beq_self_eq_true, Bool.and_self, cond_true, cond_false, eq_self, beq_iff_eq, beq_eq_false_iff_ne, bne_iff_ne, bne_eq_false_iff_eq, ne_eq, decide_eq_true_eq, decide_eq_false_iff_not, ble_true, ble_false, inRange_iff, inRange_false, wrap_inc ok_v.done]
  repeat' (first | refine drop_ok ?_ | intro _ | with_reducible apply And.intro)
  all_goals first | omega | (simp_all; done)
  
theorem c_vtrap_enter : SpecOk EB 48 S_vtrap_enter := spec_sig ok_vtrap_enter (n := 60) fun ⟨v, t, seen, ⟨⟩⟩ h hok => a_vtrap_enter v t seen (of_decide_eq_true h) (ok_vcpu (okSL_head hok)) (ok_trap (okSL_head (okSL_tail hok))) (ok_events (okSL_head (okSL_tail (okSL_tail hok))))

/-! vtrap_Reflect -/

def S_vtrap_Reflect : Spec := sig [.vcpu, .trap] [.vcpu] (fun (v, t, _) => K.reflect v t)
noncomputable def E_vtrap_Reflect : Env := EB.adds [(48, S_vtrap_enter)]

theorem ok_vtrap_Reflect : EnvOk E_vtrap_Reflect := okEB.adds (l := _) ⟨c_vtrap_enter, trivial⟩

theorem t_vtrap_Reflect (v : PVcpu) (t : PTrap) : evF E_vtrap_Reflect 60 29 (encArgs [.vcpu, .trap] (v, t, ())) = 
  bif (BEq.beq t.cause (0 : Int)) then
    (Tree.leaf (SV.agg [(SV.arr IntKind.u32 16 v.core.regs), (SV.v (Value.int IntKind.u32 v.core.pc)), (SV.arr IntKind.u32 12 v.core.csr), (SV.rd ETy.u8 v.out), (SV.v (Value.bool v.halted)), (SV.v (Value.int IntKind.i64 v.done)), (SV.rd ETy.event v.log)]))
  else
    (Tree.letv (okO [AT.vcpu]) (PVcpu.mk (K.enter v.core t) v.out v.halted (K.inc v.done) v.log) fun x0 =>
    (Tree.leaf (SV.agg [(SV.arr IntKind.u32 16 x0.core.regs), (SV.v (Value.int IntKind.u32 x0.core.pc)), (SV.arr IntKind.u32 12 x0.core.csr), (SV.rd ETy.u8 x0.out), (SV.v (Value.bool x0.halted)), (SV.v (Value.int IntKind.i64 x0.done)), (SV.rd ETy.event x0.log)]))) := by kernel_rfl
theorem a_vtrap_Reflect (v : PVcpu) (t : PTrap) (ok_v : okVcpu v) (ok_t : okTrap t) : (evF E_vtrap_Reflect 60 29 (encArgs [.vcpu, .trap] (v, t, ()))).ends fun out_ => decO [.vcpu] out_ = some (K.reflect v t) := by
  rw [t_vtrap_Reflect, Tree.ends_holds]
  simp only [Tree.holds_loop, Tree.holds_next, if_true, Tree.holds_cond, Tree.holds_letv, Tree.holds_leaf, Tree.holds_fail, decO, decA, decTup, decMach, decCore, decTrap, decInstr, decPart, decGuest, decConf, decEvent, decVcpu, bytesS, boolS, eventsS, intsS, guestsS, vcpusS, rowS, castL, Option.bind_some, Option.map_some, Option.some.injEq, Nat.beq_refl, beq_self_eq_true, Bool.and_self, cond_true, cond_false, eq_self, beq_iff_eq, beq_eq_false_iff_ne, bne_iff_ne, bne_eq_false_iff_eq, ne_eq, decide_eq_true_eq, decide_eq_false_iff_not, ble_true, ble_false, inRange_iff, inRange_false, K.reflect]
  repeat' (first | refine drop_ok ?_ | intro _ | with_reducible apply And.intro)
  all_goals first | omega | (simp_all; done)
  
theorem c_vtrap_Reflect : SpecOk EB 29 S_vtrap_Reflect := spec_sig ok_vtrap_Reflect (n := 60) fun ⟨v, t, ⟨⟩⟩ h hok => a_vtrap_Reflect v t (ok_vcpu (okSL_head hok)) (ok_trap (okSL_head (okSL_tail hok)))

/-! handler_Handle -/

def S_handler_Handle : Spec := sig [.vcpu, .trap, .i .u64] [.vcpu] (fun (v, t, time, _) => K.handle v t time) (pre := fun (v, t, time, _) => decide (v.out.length ≤ 1099511627776 ∧ v.log.length ≤ 1099511627776))
noncomputable def E_handler_Handle : Env := EB_0_1.adds [(25, S_handler_IsMonitorTrap), (16, S_emul_CanEmulate), (14, S_emul_Emulate), (29, S_vtrap_Reflect)]

theorem ok_handler_Handle : EnvOk E_handler_Handle := okEB_0_1.adds (l := _) ⟨(up_to_0_1 c_handler_IsMonitorTrap), c_emul_CanEmulate, c_emul_Emulate, (up_to_0_1 c_vtrap_Reflect), trivial⟩

theorem t_handler_Handle (v : PVcpu) (t : PTrap) (time : Int) : evF E_handler_Handle 60 23 (encArgs [.vcpu, .trap, .i .u64] (v, t, time, ())) = 
  Tree.letv (okO [AT.b]) (K.ours t) fun x0 =>
  (bif x0 then
    (Tree.leaf (SV.agg [(SV.arr IntKind.u32 16 v.core.regs), (SV.v (Value.int IntKind.u32 v.core.pc)), (SV.arr IntKind.u32 12 v.core.csr), (SV.rd ETy.u8 v.out), (SV.v (Value.bool v.halted)), (SV.v (Value.int IntKind.i64 v.done)), (SV.rd ETy.event v.log)]))
  else
    (Tree.letv (okO [AT.b]) (K.can v t) fun x1 =>
    (bif x1 then
      (bif (decide (And ((List.length v.out) ≤ 1099511627776) ((List.length v.log) ≤ 1099511627776))) then
        (Tree.letv (okO [AT.vcpu]) (K.emu v t.tval time) fun x2 =>
        (Tree.leaf (SV.agg [(SV.arr IntKind.u32 16 x2.core.regs), (SV.v (Value.int IntKind.u32 x2.core.pc)), (SV.arr IntKind.u32 12 x2.core.csr), (SV.rd ETy.u8 x2.out), (SV.v (Value.bool x2.halted)), (SV.v (Value.int IntKind.i64 x2.done)), (SV.rd ETy.event x2.log)])))
      else
        (Tree.fail))
    else
      (Tree.letv (okO [AT.vcpu]) (K.reflect v t) fun x2 =>
      (Tree.leaf (SV.agg [(SV.arr IntKind.u32 16 x2.core.regs), (SV.v (Value.int IntKind.u32 x2.core.pc)), (SV.arr IntKind.u32 12 x2.core.csr), (SV.rd ETy.u8 x2.out), (SV.v (Value.bool x2.halted)), (SV.v (Value.int IntKind.i64 x2.done)), (SV.rd ETy.event x2.log)])))))) := by kernel_rfl
theorem a_handler_Handle (v : PVcpu) (t : PTrap) (time : Int) (hpre : v.out.length ≤ 1099511627776 ∧ v.log.length ≤ 1099511627776) (ok_v : okVcpu v) (ok_t : okTrap t) (ok_time : okI .u64 time) : (evF E_handler_Handle 60 23 (encArgs [.vcpu, .trap, .i .u64] (v, t, time, ()))).ends fun out_ => decO [.vcpu] out_ = some (K.handle v t time) := by
  rw [t_handler_Handle, Tree.ends_holds]
  simp only [Tree.holds_loop, Tree.holds_next, if_true, Tree.holds_cond, Tree.holds_letv, Tree.holds_leaf, Tree.holds_fail, decO, decA, decTup, decMach, decCore, decTrap, decInstr, decPart, decGuest, decConf, decEvent, decVcpu, bytesS, boolS, eventsS, intsS, guestsS, vcpusS, rowS, castL, Option.bind_some, Option.map_some, Option.some.injEq, Nat.beq_refl, beq_self_eq_true, Bool.and_self, cond_true, cond_false, eq_self, beq_iff_eq, beq_eq_false_iff_ne, bne_iff_ne, bne_eq_false_iff_eq, ne_eq, decide_eq_true_eq, decide_eq_false_iff_not, ble_true, ble_false, inRange_iff, inRange_false, K.handle]
  repeat' (first | refine drop_ok ?_ | intro _ | with_reducible apply And.intro)
  all_goals first | omega | (simp_all; done)
  
theorem c_handler_Handle : SpecOk EB_0_1 23 S_handler_Handle := spec_sig ok_handler_Handle (n := 60) fun ⟨v, t, time, ⟨⟩⟩ h hok => a_handler_Handle v t time (of_decide_eq_true h) (ok_vcpu (okSL_head hok)) (ok_trap (okSL_head (okSL_tail hok))) (ok_int (okSL_head (okSL_tail (okSL_tail hok))))

/-! ref05_Same -/
@[reducible] def L_ref05_Same (a b : List Int) : LoopSpec where
  σ := Nat
  slots := [0, 1, 4, 5]
  keys := []
  vals := fun j => [.rd .u8 a, .rd .u8 b, .b false, .v (.int .i64 (j : Int))]
  blks := fun _ => []
  inv := fun j => j ≤ a.length ∧ a.take j = b.take j
  mu := fun j => a.length - j
def S_ref05_Same : Spec := sig [.rd .u8, .rd .u8] [.b] (fun (a, b, _) => decide (a = b))
noncomputable def E_ref05_Same : Env := EB.adds []

theorem ok_ref05_Same : EnvOk E_ref05_Same := okEB.adds (l := _) trivial

theorem t_ref05_Same (a : List Int) (b : List Int) : evFL E_ref05_Same (fun _ => some (L_ref05_Same a b)) 60 28 (encArgs [.rd .u8, .rd .u8] (a, b, ())) = 
  bif (bne (Int.ofNat (List.length a)) (Int.ofNat (List.length b))) then
    (Tree.leaf (SV.b false))
  else
    (Tree.loop 0 (L_ref05_Same a b) [(SV.rd ETy.u8 a), (SV.rd ETy.u8 b), (SV.b false), (SV.v (Value.int IntKind.i64 (0 : Int)))] [] fun (x0 : Nat) =>
    (bif (decide ((Int.ofNat x0) < (Int.ofNat (List.length a)))) then
      (bif (inRange (Int.ofNat x0) (List.length a)) then
        (bif (inRange (Int.ofNat x0) (List.length b)) then
          (bif (bne (List.getD a (Int.toNat (Int.ofNat x0)) (0 : Int)) (List.getD b (Int.toNat (Int.ofNat x0)) (0 : Int))) then
            (Tree.leaf (SV.b false))
          else
            ((Tree.next 0 [(SV.rd ETy.u8 a), (SV.rd ETy.u8 b), (SV.b false), (SV.v (Value.int IntKind.i64 (IntKind.wrap IntKind.i64 ((Int.ofNat x0) + (1 : Int)))))] [])))
        else
          (Tree.fail))
      else
        (Tree.fail))
    else
      (Tree.leaf (SV.b true)))) := by kernel_rfl
theorem a_ref05_Same (a : List Int) (b : List Int) (ok_a : okBytes a) (ok_b : okBytes b) : (evFL E_ref05_Same (fun _ => some (L_ref05_Same a b)) 60 28 (encArgs [.rd .u8, .rd .u8] (a, b, ()))).ends fun out_ => decO [.b] out_ = some (decide (a = b)) := by
  rw [t_ref05_Same, Tree.ends_holds]
  simp only [Tree.holds_cond, Tree.holds_leaf, Tree.holds_loop]
  refine ⟨fun h => ?_, fun h => ?_⟩
  · have h : ¬ ((a.length : Int) = (b.length : Int)) := by simpa using h
    have : a ≠ b := fun e => h (by rw [e])
    simp [decO, decA, decTup, decMach, decCore, decTrap, decInstr, decPart, decGuest, decConf, decEvent, decVcpu, bytesS, boolS, eventsS, intsS, guestsS, vcpusS, rowS, castL, Option.bind_some, Option.map_some, Option.some.injEq, Nat.beq_refl, beq_self_eq_true, Bool.and_self, cond_true, cond_false, eq_self, this]
  have hl : (a.length : Int) = (b.length : Int) := by simpa using h
  have hl : a.length = b.length := by omega
  have hlim : a.length ≤ 140737488355328 := ok_a.1
  refine ⟨⟨(0 : Nat), rfl, rfl, ⟨Nat.zero_le _, rfl⟩, trivial⟩, fun (j : Nat) ⟨hj, he⟩ => ?_⟩
  simp only [Tree.holds_loop, Tree.holds_next, if_true, Tree.holds_cond, Tree.holds_letv, Tree.holds_leaf, Tree.holds_fail]
  refine ⟨fun h => ?_, fun h => ?_⟩
  · have hlt : j < a.length := by simpa using h
    have r1 : inRange (j : Int) a.length = true := inRange_iff.2 ⟨by omega, by omega⟩
    have r2 : inRange (j : Int) b.length = true := inRange_iff.2 ⟨by omega, by omega⟩
    have e2 : IntKind.i64.wrap ((j : Int) + 1) = ((j + 1 : Nat) : Int) := by rw [wrapI64 (by omega) (by omega)]; rfl
    have ga : a.getD j 0 = a[j] := by simp [hlt]
    have gb : b.getD j 0 = b[j]'(by omega) := by simp [show j < b.length by omega]
    simp only [Int.ofNat_eq_natCast, Int.toNat_natCast, r1, r2, ga, gb]
    simp only [true_implies, Bool.true_eq_false, false_implies, and_true]
    refine ⟨fun q => ?_, fun q => ?_⟩
    · have : a ≠ b := fun e => by subst e; simp at q
      simp [decO, decA, decTup, decMach, decCore, decTrap, decInstr, decPart, decGuest, decConf, decEvent, decVcpu, bytesS, boolS, eventsS, intsS, guestsS, vcpusS, rowS, castL, Option.bind_some, Option.map_some, Option.some.injEq, Nat.beq_refl, beq_self_eq_true, Bool.and_self, cond_true, cond_false, eq_self, this]
    · have q : a[j] = b[j]'(by omega) := by simpa using q
      refine ⟨j + 1, by rw [e2], rfl, ⟨by omega, ?_⟩, by show a.length - (j + 1) < a.length - j; omega⟩
      rw [List.take_succ_eq_append_getElem hlt, List.take_succ_eq_append_getElem (show j < b.length by omega), he, q]
  · have : j = a.length := by simp at h; omega
    subst this
    have : a = b := by rw [List.take_length] at he; rw [hl, List.take_length] at he; exact he
    simp [decO, decA, decTup, decMach, decCore, decTrap, decInstr, decPart, decGuest, decConf, decEvent, decVcpu, bytesS, boolS, eventsS, intsS, guestsS, vcpusS, rowS, castL, Option.bind_some, Option.map_some, Option.some.injEq, Nat.beq_refl, beq_self_eq_true, Bool.and_self, cond_true, cond_false, eq_self, this]
  
theorem c_ref05_Same : SpecOk EB 28 S_ref05_Same := spec_sigL ok_ref05_Same (n := 60) (fun (a, b, _) => fun _ => some (L_ref05_Same a b)) fun ⟨a, b, ⟨⟩⟩ h hok => a_ref05_Same a b (ok_bytes (okSL_head hok)) (ok_bytes (okSL_head (okSL_tail hok)))

/-! ref16_Events -/
@[reducible] def L_ref16_Events (a b : List PEvent) : LoopSpec where
  σ := Nat
  slots := [0, 1, 4, 5]
  keys := []
  vals := fun j => [.rd .event a, .rd .event b, .b false, .v (.int .i64 (j : Int))]
  blks := fun _ => []
  inv := fun j => j ≤ a.length ∧ a.take j = b.take j
  mu := fun j => a.length - j
def S_ref16_Events : Spec := sig [.rd .event, .rd .event] [.b] (fun (a, b, _) => decide (a = b))
noncomputable def E_ref16_Events : Env := EB.adds []

theorem ok_ref16_Events : EnvOk E_ref16_Events := okEB.adds (l := _) trivial

theorem t_ref16_Events (a : List PEvent) (b : List PEvent) : evFL E_ref16_Events (fun _ => some (L_ref16_Events a b)) 60 18 (encArgs [.rd .event, .rd .event] (a, b, ())) = 
  bif (bne (Int.ofNat (List.length a)) (Int.ofNat (List.length b))) then
    (Tree.leaf (SV.b false))
  else
    (Tree.loop 0 (L_ref16_Events a b) [(SV.rd ETy.event a), (SV.rd ETy.event b), (SV.b false), (SV.v (Value.int IntKind.i64 (0 : Int)))] [] fun (x0 : Nat) =>
    (bif (decide ((Int.ofNat x0) < (Int.ofNat (List.length a)))) then
      (bif (inRange (Int.ofNat x0) (List.length a)) then
        (bif (inRange (Int.ofNat x0) (List.length b)) then
          (bif (Bool.not (Bool.and (BEq.beq (List.getD a (Int.toNat (Int.ofNat x0)) (PEvent.mk (0 : Int) (0 : Int) (0 : Int))).kind (List.getD b (Int.toNat (Int.ofNat x0)) (PEvent.mk (0 : Int) (0 : Int) (0 : Int))).kind) (Bool.and (BEq.beq (List.getD a (Int.toNat (Int.ofNat x0)) (PEvent.mk (0 : Int) (0 : Int) (0 : Int))).at_ (List.getD b (Int.toNat (Int.ofNat x0)) (PEvent.mk (0 : Int) (0 : Int) (0 : Int))).at_) (Bool.and (BEq.beq (List.getD a (Int.toNat (Int.ofNat x0)) (PEvent.mk (0 : Int) (0 : Int) (0 : Int))).time (List.getD b (Int.toNat (Int.ofNat x0)) (PEvent.mk (0 : Int) (0 : Int) (0 : Int))).time) true)))) then
            (Tree.leaf (SV.b false))
          else
            ((Tree.next 0 [(SV.rd ETy.event a), (SV.rd ETy.event b), (SV.b false), (SV.v (Value.int IntKind.i64 (IntKind.wrap IntKind.i64 ((Int.ofNat x0) + (1 : Int)))))] [])))
        else
          (Tree.fail))
      else
        (Tree.fail))
    else
      (Tree.leaf (SV.b true)))) := by kernel_rfl
theorem a_ref16_Events (a : List PEvent) (b : List PEvent) (ok_a : okEvents a) (ok_b : okEvents b) : (evFL E_ref16_Events (fun _ => some (L_ref16_Events a b)) 60 18 (encArgs [.rd .event, .rd .event] (a, b, ()))).ends fun out_ => decO [.b] out_ = some (decide (a = b)) := by
  rw [t_ref16_Events, Tree.ends_holds]
  simp only [Tree.holds_cond, Tree.holds_leaf, Tree.holds_loop]
  refine ⟨fun h => ?_, fun h => ?_⟩
  · have h : ¬ ((a.length : Int) = (b.length : Int)) := by simpa using h
    have : a ≠ b := fun e => h (by rw [e])
    simp [decO, decA, decTup, decMach, decCore, decTrap, decInstr, decPart, decGuest, decConf, decEvent, decVcpu, bytesS, boolS, eventsS, intsS, guestsS, vcpusS, rowS, castL, Option.bind_some, Option.map_some, Option.some.injEq, Nat.beq_refl, beq_self_eq_true, Bool.and_self, cond_true, cond_false, eq_self, this]
  have hl : (a.length : Int) = (b.length : Int) := by simpa using h
  have hl : a.length = b.length := by omega
  have hlim : a.length ≤ 140737488355328 := ok_a.1
  refine ⟨⟨(0 : Nat), rfl, rfl, ⟨Nat.zero_le _, rfl⟩, trivial⟩, fun (j : Nat) ⟨hj, he⟩ => ?_⟩
  simp only [Tree.holds_loop, Tree.holds_next, if_true, Tree.holds_cond, Tree.holds_letv, Tree.holds_leaf, Tree.holds_fail]
  refine ⟨fun h => ?_, fun h => ?_⟩
  · have hlt : j < a.length := by simpa using h
    have r1 : inRange (j : Int) a.length = true := inRange_iff.2 ⟨by omega, by omega⟩
    have r2 : inRange (j : Int) b.length = true := inRange_iff.2 ⟨by omega, by omega⟩
    have e2 : IntKind.i64.wrap ((j : Int) + 1) = ((j + 1 : Nat) : Int) := by rw [wrapI64 (by omega) (by omega)]; rfl
    have ga : a.getD j ⟨0, 0, 0⟩ = a[j] := by simp [hlt]
    have gb : b.getD j ⟨0, 0, 0⟩ = b[j]'(by omega) := by simp [show j < b.length by omega]
    simp only [Int.ofNat_eq_natCast, Int.toNat_natCast, r1, r2, ga, gb]
    simp only [true_implies, Bool.true_eq_false, false_implies, and_true]
    have hq : ((a[j].kind == (b[j]'(by omega)).kind && (a[j].at_ == (b[j]'(by omega)).at_ && a[j].time == (b[j]'(by omega)).time)) = true) ↔ a[j] = b[j]'(by omega) := by
      simp only [Bool.and_eq_true, beq_iff_eq]
      constructor
      · rintro ⟨q1, q2, q3⟩
        cases hx : a[j]; cases hy : b[j]'(by omega); simp_all
      · intro h; rw [h]; simp
    refine ⟨fun q => ?_, fun q => ?_⟩
    · have : a ≠ b := fun e => by subst e; simp at q
      simp [decO, decA, decTup, decMach, decCore, decTrap, decInstr, decPart, decGuest, decConf, decEvent, decVcpu, bytesS, boolS, eventsS, intsS, guestsS, vcpusS, rowS, castL, Option.bind_some, Option.map_some, Option.some.injEq, Nat.beq_refl, beq_self_eq_true, Bool.and_self, cond_true, cond_false, eq_self, this]
    · have q : a[j] = b[j]'(by omega) := hq.1 (by simpa using q)
      refine ⟨j + 1, by rw [e2], rfl, ⟨by omega, ?_⟩, by show a.length - (j + 1) < a.length - j; omega⟩
      rw [List.take_succ_eq_append_getElem hlt, List.take_succ_eq_append_getElem (show j < b.length by omega), he, q]
  · have : j = a.length := by simp at h; omega
    subst this
    have : a = b := by rw [List.take_length] at he; rw [hl, List.take_length] at he; exact he
    simp [decO, decA, decTup, decMach, decCore, decTrap, decInstr, decPart, decGuest, decConf, decEvent, decVcpu, bytesS, boolS, eventsS, intsS, guestsS, vcpusS, rowS, castL, Option.bind_some, Option.map_some, Option.some.injEq, Nat.beq_refl, beq_self_eq_true, Bool.and_self, cond_true, cond_false, eq_self, this]
  
theorem c_ref16_Events : SpecOk EB 18 S_ref16_Events := spec_sigL ok_ref16_Events (n := 60) (fun (a, b, _) => fun _ => some (L_ref16_Events a b)) fun ⟨a, b, ⟨⟩⟩ h hok => a_ref16_Events a b (ok_events (okSL_head hok)) (ok_events (okSL_head (okSL_tail hok)))

/-! ref16_Same -/

def S_ref16_Same : Spec := sig [.vcpu, .vcpu] [.b] (fun (a, b, _) => decide (a = b))
noncomputable def E_ref16_Same : Env := EB.adds [(28, S_ref05_Same), (18, S_ref16_Events)]

theorem ok_ref16_Same : EnvOk E_ref16_Same := okEB.adds (l := _) ⟨c_ref05_Same, c_ref16_Events, trivial⟩

theorem t_ref16_Same (a : PVcpu) (b : PVcpu) : evF E_ref16_Same 60 13 (encArgs [.vcpu, .vcpu] (a, b, ())) = 
  bif (Bool.and (decide (a.core.regs = b.core.regs)) (Bool.and (BEq.beq a.core.pc b.core.pc) (Bool.and (decide (a.core.csr = b.core.csr)) true))) then
    (bif a.halted then
      (bif b.halted then
        (bif (BEq.beq a.done b.done) then
          (Tree.letv (okO [AT.b]) (decide (a.out = b.out)) fun x0 =>
          (bif x0 then
            (Tree.letv (okO [AT.b]) (decide (a.log = b.log)) fun x1 =>
            (bif x1 then
              (Tree.leaf (SV.b true))
            else
              (Tree.leaf (SV.b false))))
          else
            (Tree.leaf (SV.b false))))
        else
          (Tree.leaf (SV.b false)))
      else
        (Tree.leaf (SV.b false)))
    else
      (bif b.halted then
        (Tree.leaf (SV.b false))
      else
        (bif (BEq.beq a.done b.done) then
          (Tree.letv (okO [AT.b]) (decide (a.out = b.out)) fun x0 =>
          (bif x0 then
            (Tree.letv (okO [AT.b]) (decide (a.log = b.log)) fun x1 =>
            (bif x1 then
              (Tree.leaf (SV.b true))
            else
              (Tree.leaf (SV.b false))))
          else
            (Tree.leaf (SV.b false))))
        else
          (Tree.leaf (SV.b false)))))
  else
    (Tree.leaf (SV.b false)) := by kernel_rfl
theorem a_ref16_Same (a : PVcpu) (b : PVcpu) (ok_a : okVcpu a) (ok_b : okVcpu b) : (evF E_ref16_Same 60 13 (encArgs [.vcpu, .vcpu] (a, b, ()))).ends fun out_ => decO [.b] out_ = some (decide (a = b)) := by
  rw [t_ref16_Same, Tree.ends_holds]
  simp only [Tree.holds_loop, Tree.holds_next, if_true, Tree.holds_cond, Tree.holds_letv, Tree.holds_leaf, Tree.holds_fail, decO, decA, decTup, decMach, decCore, decTrap, decInstr, decPart, decGuest, decConf, decEvent, decVcpu, bytesS, boolS, eventsS, intsS, guestsS, vcpusS, rowS, castL, Option.bind_some, Option.map_some, Option.some.injEq, Nat.beq_refl, beq_self_eq_true, Bool.and_self, cond_true, cond_false, eq_self]
  have key : a = b ↔ (a.core.regs = b.core.regs ∧ a.core.pc = b.core.pc ∧ a.core.csr = b.core.csr ∧ a.halted = b.halted ∧ a.done = b.done ∧ a.out = b.out ∧ a.log = b.log) := by
    constructor
    · rintro rfl; simp
    · rintro ⟨h1, h2, h3, h4, h5, h6, h7⟩; exact vcpu_ext (core_ext h1 h2 h3) h6 h4 h5 h7
  simp only [key]
  repeat' (first | refine drop_ok ?_ | intro _ | with_reducible apply And.intro)
  all_goals simp_all
  
theorem c_ref16_Same : SpecOk EB 13 S_ref16_Same := spec_sig ok_ref16_Same (n := 60) fun ⟨a, b, ⟨⟩⟩ h hok => a_ref16_Same a b (ok_vcpu (okSL_head hok)) (ok_vcpu (okSL_head (okSL_tail hok)))

/-! law21_awake -/

def S_law21_awake : Spec := sig [] [.b] (fun _ => true)
noncomputable def E_law21_awake : Env := EB_0_1.adds [(23, S_handler_Handle), (13, S_ref16_Same), (25, S_handler_IsMonitorTrap)]

theorem ok_law21_awake : EnvOk E_law21_awake := okEB_0_1.adds (l := _) ⟨c_handler_Handle, (up_to_0_1 c_ref16_Same), (up_to_0_1 c_handler_IsMonitorTrap), trivial⟩
theorem t_c_law21_awake : (evF E_law21_awake 60 22 []).inst = .leaf (.b true) := by kernel_rfl
theorem c_law21_awake : SpecOk EB_0_1 22 S_law21_awake := spec_sig ok_law21_awake (n := 60) fun _ _ _ => Tree.of_inst (Q := .of _) (by
  show ((evF E_law21_awake 60 22 []).inst).holds _
  rw [t_c_law21_awake]; exact rfl)


/-! ref16_Few -/

def S_ref16_Few : Spec := sig [.vcpu] [.b] (fun (v, _) => K.vfew v)
noncomputable def E_ref16_Few : Env := EB.adds []

theorem ok_ref16_Few : EnvOk E_ref16_Few := okEB.adds (l := _) trivial

theorem t_ref16_Few (v : PVcpu) : evF E_ref16_Few 60 12 (encArgs [.vcpu] (v, ())) = 
  bif (decide ((Int.ofNat (List.length v.out)) ≤ (600 : Int))) then
    (bif (decide ((Int.ofNat (List.length v.log)) ≤ (600 : Int))) then
      (Tree.leaf (SV.b true))
    else
      (Tree.leaf (SV.b false)))
  else
    (Tree.leaf (SV.b false)) := by kernel_rfl
theorem a_ref16_Few (v : PVcpu) (ok_v : okVcpu v) : (evF E_ref16_Few 60 12 (encArgs [.vcpu] (v, ()))).ends fun out_ => decO [.b] out_ = some (K.vfew v) := by
  rw [t_ref16_Few, Tree.ends_holds]
  simp only [Tree.holds_loop, Tree.holds_next, if_true, Tree.holds_cond, Tree.holds_letv, Tree.holds_leaf, Tree.holds_fail, decO, decA, decTup, decMach, decCore, decTrap, decInstr, decPart, decGuest, decConf, decEvent, decVcpu, bytesS, boolS, eventsS, intsS, guestsS, vcpusS, rowS, castL, Option.bind_some, Option.map_some, Option.some.injEq, Nat.beq_refl, beq_self_eq_true, Bool.and_self, cond_true, cond_false, eq_self, beq_iff_eq, beq_eq_false_iff_ne, bne_iff_ne, bne_eq_false_iff_eq, ne_eq, decide_eq_true_eq, decide_eq_false_iff_not, ble_true, ble_false, inRange_iff, inRange_false]
  repeat' (first | refine drop_ok ?_ | intro _ | with_reducible apply And.intro)
  all_goals (first | omega | (simp_all [K.vfew]; done) | (simp_all [K.vfew] <;> omega) | simp_all [K.vfew])
  
theorem c_ref16_Few : SpecOk EB 12 S_ref16_Few := spec_sig ok_ref16_Few (n := 60) fun ⟨v, ⟨⟩⟩ h hok => a_ref16_Few v (ok_vcpu (okSL_head hok))

/-! ref16_Form -/
@[reducible] def L_ref16_Form (v : PVcpu) : LoopSpec where
  σ := Nat
  slots := [1, 2, 3]
  keys := [1]
  vals := fun j => [.loc 0 0 0 1, .b false, .v (.int .i64 (j : Int))]
  blks := fun _ => [.cells (vcpuC v) 30]
  inv := fun j => j ≤ v.log.length ∧ ∀ i, i < j → K.evAt v.log v.done i = true
  mu := fun j => v.log.length - j
def S_ref16_Form : Spec := sig [.vcpu] [.b] (fun (v, _) => K.vform v)
noncomputable def E_ref16_Form : Env := EB.adds []

theorem ok_ref16_Form : EnvOk E_ref16_Form := okEB.adds (l := _) trivial

theorem t_ref16_Form (v : PVcpu) : evFL E_ref16_Form (fun _ => some (L_ref16_Form v)) 60 30 (encArgs [.vcpu] (v, ())) = 
  Tree.loop 0 (L_ref16_Form v) [(SV.loc 0 0 0 1), (SV.b false), (SV.v (Value.int IntKind.i64 (0 : Int)))] [(Blk.cells [(SV.arr IntKind.u32 16 v.core.regs), (SV.v (Value.int IntKind.u32 v.core.pc)), (SV.arr IntKind.u32 12 v.core.csr), (SV.rd ETy.u8 v.out), (SV.v (Value.bool v.halted)), (SV.v (Value.int IntKind.i64 v.done)), (SV.rd ETy.event v.log)] 30)] fun (x0 : Nat) =>
  (bif (decide ((Int.ofNat x0) < (Int.ofNat (List.length v.log)))) then
    (bif (inRange (Int.ofNat x0) (List.length v.log)) then
      (bif (decide ((List.getD v.log (Int.toNat (Int.ofNat x0)) (PEvent.mk (0 : Int) (0 : Int) (0 : Int))).kind < (1 : Int))) then
        (Tree.leaf (SV.b false))
      else
        (bif (decide ((List.getD v.log (Int.toNat (Int.ofNat x0)) (PEvent.mk (0 : Int) (0 : Int) (0 : Int))).kind > (3 : Int))) then
          (Tree.leaf (SV.b false))
        else
          (bif (decide ((List.getD v.log (Int.toNat (Int.ofNat x0)) (PEvent.mk (0 : Int) (0 : Int) (0 : Int))).at_ < (0 : Int))) then
            (Tree.leaf (SV.b false))
          else
            (bif (decide ((List.getD v.log (Int.toNat (Int.ofNat x0)) (PEvent.mk (0 : Int) (0 : Int) (0 : Int))).at_ ≥ v.done)) then
              (Tree.leaf (SV.b false))
            else
              (bif (decide ((Int.ofNat x0) > (0 : Int))) then
                (bif (inRange (IntKind.wrap IntKind.i64 ((Int.ofNat x0) - (1 : Int))) (List.length v.log)) then
                  (bif (decide ((List.getD v.log (Int.toNat (Int.ofNat x0)) (PEvent.mk (0 : Int) (0 : Int) (0 : Int))).at_ ≤ (List.getD v.log (Int.toNat (IntKind.wrap IntKind.i64 ((Int.ofNat x0) - (1 : Int)))) (PEvent.mk (0 : Int) (0 : Int) (0 : Int))).at_)) then
                    (Tree.leaf (SV.b false))
                  else
                    ((Tree.next 0 [(SV.loc 0 0 0 1), (SV.b false), (SV.v (Value.int IntKind.i64 (IntKind.wrap IntKind.i64 ((Int.ofNat x0) + (1 : Int)))))] [(Blk.cells [(SV.arr IntKind.u32 16 v.core.regs), (SV.v (Value.int IntKind.u32 v.core.pc)), (SV.arr IntKind.u32 12 v.core.csr), (SV.rd ETy.u8 v.out), (SV.v (Value.bool v.halted)), (SV.v (Value.int IntKind.i64 v.done)), (SV.rd ETy.event v.log)] 30)])))
                else
                  (Tree.fail))
              else
                ((Tree.next 0 [(SV.loc 0 0 0 1), (SV.b false), (SV.v (Value.int IntKind.i64 (IntKind.wrap IntKind.i64 ((Int.ofNat x0) + (1 : Int)))))] [(Blk.cells [(SV.arr IntKind.u32 16 v.core.regs), (SV.v (Value.int IntKind.u32 v.core.pc)), (SV.arr IntKind.u32 12 v.core.csr), (SV.rd ETy.u8 v.out), (SV.v (Value.bool v.halted)), (SV.v (Value.int IntKind.i64 v.done)), (SV.rd ETy.event v.log)] 30)])))))))
    else
      (Tree.fail))
  else
    (bif (BEq.beq (List.getD v.core.regs 0 (0 : Int)) (0 : Int)) then
      (bif (BEq.beq (List.getD v.core.csr 7 (0 : Int)) (0 : Int)) then
        (bif (BEq.beq (List.getD v.core.csr 8 (0 : Int)) (0 : Int)) then
          (bif (decide (v.done ≥ (0 : Int))) then
            (Tree.leaf (SV.b true))
          else
            (Tree.leaf (SV.b false)))
        else
          (Tree.leaf (SV.b false)))
      else
        (Tree.leaf (SV.b false)))
    else
      (Tree.leaf (SV.b false)))) := by kernel_rfl
theorem a_ref16_Form (v : PVcpu) (ok_v : okVcpu v) : (evFL E_ref16_Form (fun _ => some (L_ref16_Form v)) 60 30 (encArgs [.vcpu] (v, ()))).ends fun out_ => decO [.b] out_ = some (K.vform v) := by
  rw [t_ref16_Form, Tree.ends_holds]
  have hlim : v.log.length ≤ 140737488355328 := ok_v.log.1
  simp only [Tree.holds_loop]
  refine ⟨⟨(0 : Nat), rfl, rfl, ⟨Nat.zero_le _, fun i h => absurd h (Nat.not_lt_zero _)⟩, trivial⟩, fun (j : Nat) ⟨hj, hinv⟩ => ?_⟩
  have hno : j < v.log.length → K.evAt v.log v.done j = false → K.vform v = false := fun h1 h2 => by
    have : K.logOk v.log v.done = false := by
      cases hq : K.logOk v.log v.done with
      | false => rfl
      | true => rw [logOk_iff.1 hq j h1] at h2; cases h2
    unfold K.vform; rw [this]; rfl
  have hyes : ¬ j < v.log.length → K.logOk v.log v.done = true := fun h => logOk_iff.2 fun i hi => hinv i (by omega)
  have e2 : j < v.log.length → IntKind.i64.wrap ((j : Int) + 1) = ((j + 1 : Nat) : Int) := fun h => by rw [wrapI64 (by omega) (by omega)]; rfl
  have e3 : 0 < j → IntKind.i64.wrap ((j : Int) - 1) = ((j - 1 : Nat) : Int) := fun h => by rw [wrapI64 (by omega) (by omega)]; omega
  have nx : j < v.log.length → K.evAt v.log v.done j = true → (L_ref16_Form v).at (fun y => v.log.length - y < v.log.length - j) [SV.loc 0 0 0 1, SV.b false, SV.v (.int .i64 (IntKind.i64.wrap ((j : Int) + 1)))] [Blk.cells (vcpuC v) 30] := fun h1 h2 => by
    rw [e2 h1]
    refine ⟨j + 1, rfl, rfl, ⟨h1, fun i hi => ?_⟩, by show v.log.length - (j + 1) < v.log.length - j; omega⟩
    by_cases hij : i = j
    · subst hij; exact h2
    · exact hinv i (by omega)
  have at_ : K.evAt v.log v.done j = (decide (1 ≤ (v.log.getD j ⟨0, 0, 0⟩).kind) && decide ((v.log.getD j ⟨0, 0, 0⟩).kind ≤ 3) && decide (0 ≤ (v.log.getD j ⟨0, 0, 0⟩).at_) && decide ((v.log.getD j ⟨0, 0, 0⟩).at_ < v.done) && (j == 0 || decide ((v.log.getD (j - 1) ⟨0, 0, 0⟩).at_ < (v.log.getD j ⟨0, 0, 0⟩).at_))) := rfl
  have hat : K.evAt v.log v.done j = true ↔ (1 ≤ (v.log.getD j ⟨0, 0, 0⟩).kind ∧ (v.log.getD j ⟨0, 0, 0⟩).kind ≤ 3 ∧ 0 ≤ (v.log.getD j ⟨0, 0, 0⟩).at_ ∧ (v.log.getD j ⟨0, 0, 0⟩).at_ < v.done ∧ (j = 0 ∨ (v.log.getD (j - 1) ⟨0, 0, 0⟩).at_ < (v.log.getD j ⟨0, 0, 0⟩).at_)) := by
    rw [at_]; simp only [Bool.and_eq_true, Bool.or_eq_true, beq_iff_eq, decide_eq_true_eq, and_assoc]
  have hno2 : j < v.log.length → ¬ (1 ≤ (v.log.getD j ⟨0, 0, 0⟩).kind ∧ (v.log.getD j ⟨0, 0, 0⟩).kind ≤ 3 ∧ 0 ≤ (v.log.getD j ⟨0, 0, 0⟩).at_ ∧ (v.log.getD j ⟨0, 0, 0⟩).at_ < v.done ∧ (j = 0 ∨ (v.log.getD (j - 1) ⟨0, 0, 0⟩).at_ < (v.log.getD j ⟨0, 0, 0⟩).at_)) → K.vform v = false := fun h1 h2 => hno h1 (by
    cases hq : K.evAt v.log v.done j with
    | false => rfl
    | true => exact absurd (hat.1 hq) h2)
  clear hno at_
  simp only [Tree.holds_loop, Tree.holds_next, if_true, Tree.holds_cond, Tree.holds_letv, Tree.holds_leaf, Tree.holds_fail, decO, decA, decTup, decMach, decCore, decTrap, decInstr, decPart, decGuest, decConf, decEvent, decVcpu, bytesS, boolS, eventsS, intsS, guestsS, vcpusS, rowS, castL, Option.bind_some, Option.map_some, Option.some.injEq, Nat.beq_refl, beq_self_eq_true, Bool.and_self, cond_true, cond_false, eq_self, beq_iff_eq, beq_eq_false_iff_ne, bne_iff_ne, bne_eq_false_iff_eq, ne_eq, decide_eq_true_eq, decide_eq_false_iff_not, ble_true, ble_false, inRange_iff, inRange_false, Int.ofNat_eq_natCast, Int.toNat_natCast]
  by_cases h0 : 0 < j
  · simp only [e3 h0, Int.toNat_natCast]
    clear e3
    repeat' (first | refine drop_ok ?_ | intro _ | with_reducible apply And.intro)
    all_goals first | omega | (refine nx (by omega) (hat.2 ?_); omega) | (rw [hno2 (by omega) (by omega)]; done) | (have := hyes (by omega); clear nx hno2 hat hyes hinv e2; simp_all [K.vform]; done)
  · have : j = 0 := by omega
    subst this
    repeat' (first | refine drop_ok ?_ | intro _ | with_reducible apply And.intro)
    all_goals first | omega | (refine nx (by omega) (hat.2 ?_); omega) | (rw [hno2 (by omega) (by omega)]; done) | (have := hyes (by omega); clear nx hno2 hat hyes hinv e2 e3; simp_all [K.vform]; done)
  
theorem c_ref16_Form : SpecOk EB 30 S_ref16_Form := spec_sigL ok_ref16_Form (n := 60) (fun (v, _) => fun _ => some (L_ref16_Form v)) fun ⟨v, ⟨⟩⟩ h hok => a_ref16_Form v (ok_vcpu (okSL_head hok))

/-! law21_HandlerHandleKeepsValidity -/

def S_law21_HandlerHandleKeepsValidity : Spec := sig [.vcpu, .trap, .i .u64] [.b] (fun (v, t, time, _) => true)
noncomputable def E_law21_HandlerHandleKeepsValidity : Env := EB_0_1.adds [(19, S_ref02_Decode), (22, S_law21_awake), (12, S_ref16_Few), (30, S_ref16_Form), (23, S_handler_Handle), (28, S_ref05_Same), (18, S_ref16_Events)]

theorem ok_law21_HandlerHandleKeepsValidity : EnvOk E_law21_HandlerHandleKeepsValidity := okEB_0_1.adds (l := _) ⟨(up_to_0_1 c_ref02_Decode), c_law21_awake, (up_to_0_1 c_ref16_Few), (up_to_0_1 c_ref16_Form), c_handler_Handle, (up_to_0_1 c_ref05_Same), (up_to_0_1 c_ref16_Events), trivial⟩

theorem t_law21_HandlerHandleKeepsValidity (v : PVcpu) (t : PTrap) (time : Int) : evF E_law21_HandlerHandleKeepsValidity 60 9 (encArgs [.vcpu, .trap, .i .u64] (v, t, time, ())) = 
  Tree.letv (okO [AT.b]) true fun x0 =>
  (bif x0 then
    (Tree.letv (okO [AT.b]) (K.vfew v) fun x1 =>
    (bif x1 then
      (Tree.letv (okO [AT.b]) (K.vform v) fun x2 =>
      (bif x2 then
        (bif (decide (v.done > (1099511627776 : Int))) then
          (Tree.letv (okO [AT.b]) true fun x3 =>
          (bif x3 then
            (Tree.leaf (SV.b true))
          else
            (Tree.leaf (SV.b false))))
        else
          (bif (decide (And ((List.length v.out) ≤ 1099511627776) ((List.length v.log) ≤ 1099511627776))) then
            (Tree.letv (okO [AT.vcpu]) (K.handle v t time) fun x3 =>
            (Tree.letv (okO [AT.instr, AT.b]) (K.decode t.tval) fun x4 =>
            (bif x4.snd then
              (Tree.letv (okO [AT.b]) (K.vform x3) fun x5 =>
              (bif x5 then
                (bif (decide ((Int.ofNat (List.length x3.out)) < (Int.ofNat (List.length v.out)))) then
                  (Tree.leaf (SV.b false))
                else
                  (bif (Bool.and (decide ((0 : Int) ≤ (Int.ofNat (List.length v.out)))) (decide ((Int.ofNat (List.length v.out)) ≤ (Int.ofNat (List.length x3.out))))) then
                    (Tree.letv (okO [AT.b]) (decide ((List.drop 0 (List.take (Int.toNat (Int.ofNat (List.length v.out))) x3.out)) = v.out)) fun x6 =>
                    (bif x6 then
                      (bif (decide ((Int.ofNat (List.length x3.log)) < (Int.ofNat (List.length v.log)))) then
                        (Tree.leaf (SV.b false))
                      else
                        (bif (Bool.and (decide ((0 : Int) ≤ (Int.ofNat (List.length v.log)))) (decide ((Int.ofNat (List.length v.log)) ≤ (Int.ofNat (List.length x3.log))))) then
                          (Tree.letv (okO [AT.b]) (decide ((List.drop 0 (List.take (Int.toNat (Int.ofNat (List.length v.log))) x3.log)) = v.log)) fun x7 =>
                          (bif x7 then
                            (bif x3.halted then
                              (bif v.halted then
                                (Tree.leaf (SV.b true))
                              else
                                (bif x3.halted then
                                  (bif (BEq.beq x4.fst.op (24 : Int)) then
                                    (bif (BEq.beq t.cause (2 : Int)) then
                                      (Tree.leaf (SV.b true))
                                    else
                                      (Tree.leaf (SV.b false)))
                                  else
                                    (Tree.leaf (SV.b false)))
                                else
                                  (Tree.leaf (SV.b false))))
                            else
                              (bif v.halted then
                                (bif x3.halted then
                                  (bif (BEq.beq x4.fst.op (24 : Int)) then
                                    (bif (BEq.beq t.cause (2 : Int)) then
                                      (Tree.leaf (SV.b true))
                                    else
                                      (Tree.leaf (SV.b false)))
                                  else
                                    (Tree.leaf (SV.b false)))
                                else
                                  (Tree.leaf (SV.b false)))
                              else
                                (Tree.leaf (SV.b true))))
                          else
                            (Tree.leaf (SV.b false))))
                        else
                          (Tree.fail)))
                    else
                      (Tree.leaf (SV.b false))))
                  else
                    (Tree.fail)))
              else
                (Tree.leaf (SV.b false))))
            else
              (Tree.letv (okO [AT.b]) (K.vform x3) fun x5 =>
              (bif x5 then
                (bif (decide ((Int.ofNat (List.length x3.out)) < (Int.ofNat (List.length v.out)))) then
                  (Tree.leaf (SV.b false))
                else
                  (bif (Bool.and (decide ((0 : Int) ≤ (Int.ofNat (List.length v.out)))) (decide ((Int.ofNat (List.length v.out)) ≤ (Int.ofNat (List.length x3.out))))) then
                    (Tree.letv (okO [AT.b]) (decide ((List.drop 0 (List.take (Int.toNat (Int.ofNat (List.length v.out))) x3.out)) = v.out)) fun x6 =>
                    (bif x6 then
                      (bif (decide ((Int.ofNat (List.length x3.log)) < (Int.ofNat (List.length v.log)))) then
                        (Tree.leaf (SV.b false))
                      else
                        (bif (Bool.and (decide ((0 : Int) ≤ (Int.ofNat (List.length v.log)))) (decide ((Int.ofNat (List.length v.log)) ≤ (Int.ofNat (List.length x3.log))))) then
                          (Tree.letv (okO [AT.b]) (decide ((List.drop 0 (List.take (Int.toNat (Int.ofNat (List.length v.log))) x3.log)) = v.log)) fun x7 =>
                          (bif x7 then
                            (bif x3.halted then
                              (bif v.halted then
                                (Tree.leaf (SV.b true))
                              else
                                (bif x3.halted then
                                  (bif (BEq.beq x4.fst.op (24 : Int)) then
                                    (bif (BEq.beq t.cause (2 : Int)) then
                                      (Tree.leaf (SV.b true))
                                    else
                                      (Tree.leaf (SV.b false)))
                                  else
                                    (Tree.leaf (SV.b false)))
                                else
                                  (Tree.leaf (SV.b false))))
                            else
                              (bif v.halted then
                                (bif x3.halted then
                                  (bif (BEq.beq x4.fst.op (24 : Int)) then
                                    (bif (BEq.beq t.cause (2 : Int)) then
                                      (Tree.leaf (SV.b true))
                                    else
                                      (Tree.leaf (SV.b false)))
                                  else
                                    (Tree.leaf (SV.b false)))
                                else
                                  (Tree.leaf (SV.b false)))
                              else
                                (Tree.leaf (SV.b true))))
                          else
                            (Tree.leaf (SV.b false))))
                        else
                          (Tree.fail)))
                    else
                      (Tree.leaf (SV.b false))))
                  else
                    (Tree.fail)))
              else
                (Tree.leaf (SV.b false)))))))
          else
            (Tree.fail)))
      else
        (Tree.letv (okO [AT.b]) true fun x3 =>
        (bif x3 then
          (Tree.leaf (SV.b true))
        else
          (Tree.leaf (SV.b false))))))
    else
      (Tree.letv (okO [AT.b]) true fun x2 =>
      (bif x2 then
        (Tree.leaf (SV.b true))
      else
        (Tree.leaf (SV.b false))))))
  else
    (Tree.letv (okO [AT.b]) true fun x1 =>
    (bif x1 then
      (Tree.leaf (SV.b true))
    else
      (Tree.leaf (SV.b false))))) := by kernel_rfl
theorem a_law21_HandlerHandleKeepsValidity (v : PVcpu) (t : PTrap) (time : Int) (ok_v : okVcpu v) (ok_t : okTrap t) (ok_time : okI .u64 time) : (evF E_law21_HandlerHandleKeepsValidity 60 9 (encArgs [.vcpu, .trap, .i .u64] (v, t, time, ()))).ends fun out_ => decO [.b] out_ = some (true) := by
  rw [t_law21_HandlerHandleKeepsValidity, Tree.ends_holds]
  have f1 : K.vform v = true → v.done ≤ 1099511627776 → K.vform (K.handle v t time) = true := fun h1 h2 => handle_keeps ok_v h1 h2
  obtain ⟨⟨f2, f3⟩, f4, f5⟩ := handle_take v t time
  have f6 := handle_halted v t time
  have f7 : K.vfew v = true → v.out.length ≤ 1099511627776 ∧ v.log.length ≤ 1099511627776 := fun h => by simp only [K.vfew, Bool.and_eq_true, decide_eq_true_eq] at h; omega
  simp only [Tree.holds_loop, Tree.holds_next, if_true, Tree.holds_cond, Tree.holds_letv, Tree.holds_leaf, Tree.holds_fail, decO, decA, decTup, decMach, decCore, decTrap, decInstr, decPart, decGuest, decConf, decEvent, decVcpu, bytesS, boolS, eventsS, intsS, guestsS, vcpusS, rowS, castL, Option.bind_some, Option.map_some, Option.some.injEq, Nat.beq_refl, beq_self_eq_true, Bool.and_self, cond_true, cond_false, eq_self, beq_iff_eq, beq_eq_false_iff_ne, bne_iff_ne, bne_eq_false_iff_eq, ne_eq, decide_eq_true_eq, decide_eq_false_iff_not, ble_true, ble_false, inRange_iff, inRange_false, List.drop_zero, Int.ofNat_eq_natCast, Int.toNat_natCast, List.take_length, List.append_eq, Bool.and_eq_true, decide_true, and_true, true_and, Int.ofNat_eq_natCast, Int.toNat_natCast, f3, f5]
  repeat' (first | refine drop_ok ?_ | intro _ | with_reducible apply And.intro)
  all_goals first | rfl | trivial | contradiction | omega | (exfalso; first | omega | exact absurd (f7 (by assumption)) (by assumption) | (have := f1 (by assumption) (by omega); simp_all; done) | (rcases f6 with q | q <;> simp_all; done) | (clear f1 f2 f3 f4 f5 f7; simp_all; done))
  
theorem c_law21_HandlerHandleKeepsValidity : SpecOk EB_0_1 9 S_law21_HandlerHandleKeepsValidity := spec_sig ok_law21_HandlerHandleKeepsValidity (n := 60) fun ⟨v, t, time, ⟨⟩⟩ h hok => a_law21_HandlerHandleKeepsValidity v t time (ok_vcpu (okSL_head hok)) (ok_trap (okSL_head (okSL_tail hok))) (ok_int (okSL_head (okSL_tail (okSL_tail hok))))


end Go.Proofs.YtnhokcnnhmkbhaaDoor
