/- Contracts of functions, by evaluation (nothing is claimed here). -/
import Derived.Test.YtnhokcnnhmkbhaaDoorSh29
import Derived.KernelRfl
import Derived.Test.YtnhokcnnhmkbhaaDoorProg
import Derived.Test.YtnhokcnnhmkbhaaDoorEmulationMatchesStepB1
set_option linter.unusedVariables false
set_option linter.unusedSimpArgs false
set_option maxRecDepth 100000
set_option maxHeartbeats 1000000
namespace Go.Proofs.YtnhokcnnhmkbhaaDoor
open Go
/-! emul_seen -/

def S_emul_seen : Spec := sig [.instr, .i .i64, .i .u64] [.event] (fun (i, at_, time, _) => K.seen i at_ time)
noncomputable def E_emul_seen : Env := EB.adds []

theorem ok_emul_seen : EnvOk E_emul_seen := okEB.adds (l := _) trivial

theorem t_emul_seen (i : PInstr) (at_ : Int) (time : Int) : evF E_emul_seen 60 35 (encArgs [.instr, .i .i64, .i .u64] (i, at_, time, ())) = 
  bif (BEq.beq i.imm (8 : Int)) then
    (Tree.leaf (SV.agg [(SV.v (Value.int IntKind.i64 (3 : Int))), (SV.v (Value.int IntKind.i64 at_)), (SV.v (Value.int IntKind.u64 time))]))
  else
    (Tree.leaf (SV.agg [(SV.v (Value.int IntKind.i64 (2 : Int))), (SV.v (Value.int IntKind.i64 at_)), (SV.v (Value.int IntKind.u64 time))])) := by kernel_rfl
theorem a_emul_seen (i : PInstr) (at_ : Int) (time : Int) (ok_i : okInstr i) (ok_at_ : okI .i64 at_) (ok_time : okI .u64 time) : (evF E_emul_seen 60 35 (encArgs [.instr, .i .i64, .i .u64] (i, at_, time, ()))).ends fun out_ => decO [.event] out_ = some (K.seen i at_ time) := by
  rw [t_emul_seen, Tree.ends_holds]
  simp only [Tree.holds_loop, Tree.holds_fork, Tree.holds_next, if_true, Tree.holds_cond, Tree.holds_letv, Tree.holds_leaf, Tree.holds_fail, decO, decA, decTup, decMach, decCore, decTrap, decInstr, decPart, decGuest, decConf, decEvent, decVcpu, decStep, bytesS, boolS, eventsS, intsS, guestsS, vcpusS, rowS, castL, Option.bind_some, Option.map_some, Option.some.injEq, Nat.beq_refl, beq_self_eq_true, Bool.and_self, cond_true, cond_false, eq_self, beq_iff_eq, beq_eq_false_iff_ne, bne_iff_ne, bne_eq_false_iff_eq, ne_eq, decide_eq_true_eq, decide_eq_false_iff_not, ble_true, ble_false, inRange_iff, inRange_false, K.seen]
  repeat' (first | refine drop_ok ?_ | intro _ | with_reducible apply And.intro)
  all_goals simp_all
  
theorem c_emul_seen : SpecOk EB 35 S_emul_seen := spec_sig ok_emul_seen (n := 60) fun ⟨i, at_, time, ⟨⟩⟩ h hok => a_emul_seen i at_ time (ok_instr (okSL_head hok)) (ok_int (okSL_head (okSL_tail hok))) (ok_int (okSL_head (okSL_tail (okSL_tail hok))))

/-! vcpu_WithMachine -/

def S_vcpu_WithMachine : Spec := sig [.vcpu, .mach] [.vcpu] (fun (v, m, _) => K.vwith v m)
noncomputable def E_vcpu_WithMachine : Env := EB.adds []

theorem ok_vcpu_WithMachine : EnvOk E_vcpu_WithMachine := okEB.adds (l := _) trivial

theorem t_vcpu_WithMachine (v : PVcpu) (m : PMach) : evF E_vcpu_WithMachine 60 36 (encArgs [.vcpu, .mach] (v, m, ())) = 
  bif m.halted then
    (Tree.leaf (SV.agg [(SV.arr IntKind.u32 16 m.core.regs), (SV.v (Value.int IntKind.u32 m.core.pc)), (SV.arr IntKind.u32 12 m.core.csr), (SV.rd ETy.u8 m.out), (SV.b true), (SV.v (Value.int IntKind.i64 v.done)), (SV.rd ETy.event v.log)]))
  else
    (Tree.leaf (SV.agg [(SV.arr IntKind.u32 16 m.core.regs), (SV.v (Value.int IntKind.u32 m.core.pc)), (SV.arr IntKind.u32 12 m.core.csr), (SV.rd ETy.u8 m.out), (SV.b false), (SV.v (Value.int IntKind.i64 v.done)), (SV.rd ETy.event v.log)])) := by kernel_rfl
theorem a_vcpu_WithMachine (v : PVcpu) (m : PMach) (ok_v : okVcpu v) (ok_m : okMach m) : (evF E_vcpu_WithMachine 60 36 (encArgs [.vcpu, .mach] (v, m, ()))).ends fun out_ => decO [.vcpu] out_ = some (K.vwith v m) := by
  rw [t_vcpu_WithMachine, Tree.ends_holds]
  simp only [Tree.holds_loop, Tree.holds_fork, Tree.holds_next, if_true, Tree.holds_cond, Tree.holds_letv, Tree.holds_leaf, Tree.holds_fail, decO, decA, decTup, decMach, decCore, decTrap, decInstr, decPart, decGuest, decConf, decEvent, decVcpu, decStep, bytesS, boolS, eventsS, intsS, guestsS, vcpusS, rowS, castL, Option.bind_some, Option.map_some, Option.some.injEq, Nat.beq_refl, beq_self_eq_true, Bool.and_self, cond_true, cond_false, eq_self, K.vwith]
  cases m.halted <;> simp
  
theorem c_vcpu_WithMachine : SpecOk EB 36 S_vcpu_WithMachine := spec_sig ok_vcpu_WithMachine (n := 60) fun ⟨v, m, ⟨⟩⟩ h hok => a_vcpu_WithMachine v m (ok_vcpu (okSL_head hok)) (ok_mach (okSL_head (okSL_tail hok)))

/-! regs_Get -/

def S_regs_Get : Spec := sig [.a .u32 16, .i .i64] [.i .u32] (fun (r, i, _) => K.get r i)
noncomputable def E_regs_Get : Env := EB.adds []

theorem ok_regs_Get : EnvOk E_regs_Get := okEB.adds (l := _) trivial

theorem t_regs_Get (r : List Int) (i : Int) : evF E_regs_Get 60 55 (encArgs [.a .u32 16, .i .i64] (r, i, ())) = 
  bif (decide (i > (0 : Int))) then
    (bif (decide (i < (16 : Int))) then
      (bif (inRange i 16) then
        (Tree.leaf (SV.v (Value.int IntKind.u32 (List.getD r ((Int.toNat i)) (0 : Int)))))
      else
        (Tree.fail))
    else
      (Tree.leaf (SV.v (Value.int IntKind.u32 (0 : Int)))))
  else
    (Tree.leaf (SV.v (Value.int IntKind.u32 (0 : Int)))) := by kernel_rfl
theorem a_regs_Get (r : List Int) (i : Int) (ok_r : okL .u32 16 r) (ok_i : okI .i64 i) : (evF E_regs_Get 60 55 (encArgs [.a .u32 16, .i .i64] (r, i, ()))).ends fun out_ => decO [.i .u32] out_ = some (K.get r i) := by
  rw [t_regs_Get, Tree.ends_holds]
  simp only [Tree.holds_loop, Tree.holds_fork, Tree.holds_next, if_true, Tree.holds_cond, Tree.holds_letv, Tree.holds_leaf, Tree.holds_fail, decO, decA, decTup, decMach, decCore, decTrap, decInstr, decPart, decGuest, decConf, decEvent, decVcpu, decStep, bytesS, boolS, eventsS, intsS, guestsS, vcpusS, rowS, castL, Option.bind_some, Option.map_some, Option.some.injEq, Nat.beq_refl, beq_self_eq_true, Bool.and_self, cond_true, cond_false, eq_self, K.get]
  grind [inRange]
  
theorem c_regs_Get : SpecOk EB 55 S_regs_Get := spec_sig ok_regs_Get (n := 60) fun ⟨r, i, ⟨⟩⟩ h hok => a_regs_Get r i (ok_arr (okSL_head hok)) (ok_int (okSL_head (okSL_tail hok)))

/-! regs_Set -/

def S_regs_Set : Spec := sig [.a .u32 16, .i .i64, .i .u32] [.a .u32 16] (fun (r, i, v, _) => K.put r i v)
noncomputable def E_regs_Set : Env := EB.adds []

theorem ok_regs_Set : EnvOk E_regs_Set := okEB.adds (l := _) trivial

theorem t_regs_Set (r : List Int) (i : Int) (v : Int) : evF E_regs_Set 60 57 (encArgs [.a .u32 16, .i .i64, .i .u32] (r, i, v, ())) = 
  bif (decide (i > (0 : Int))) then
    (bif (decide (i < (16 : Int))) then
      (bif (inRange i 16) then
        (Tree.leaf (SV.agg [(SV.arr IntKind.u32 16 (List.set r ((Int.toNat i)) v))]))
      else
        (Tree.fail))
    else
      (Tree.leaf (SV.agg [(SV.arr IntKind.u32 16 r)])))
  else
    (Tree.leaf (SV.agg [(SV.arr IntKind.u32 16 r)])) := by kernel_rfl
theorem a_regs_Set (r : List Int) (i : Int) (v : Int) (ok_r : okL .u32 16 r) (ok_i : okI .i64 i) (ok_v : okI .u32 v) : (evF E_regs_Set 60 57 (encArgs [.a .u32 16, .i .i64, .i .u32] (r, i, v, ()))).ends fun out_ => decO [.a .u32 16] out_ = some (K.put r i v) := by
  rw [t_regs_Set, Tree.ends_holds]
  simp only [Tree.holds_loop, Tree.holds_fork, Tree.holds_next, if_true, Tree.holds_cond, Tree.holds_letv, Tree.holds_leaf, Tree.holds_fail, decO, decA, decTup, decMach, decCore, decTrap, decInstr, decPart, decGuest, decConf, decEvent, decVcpu, decStep, bytesS, boolS, eventsS, intsS, guestsS, vcpusS, rowS, castL, Option.bind_some, Option.map_some, Option.some.injEq, Nat.beq_refl, beq_self_eq_true, Bool.and_self, cond_true, cond_false, eq_self, K.put]
  grind [inRange]
  
theorem c_regs_Set : SpecOk EB 57 S_regs_Set := spec_sig ok_regs_Set (n := 60) fun ⟨r, i, v, ⟨⟩⟩ h hok => a_regs_Set r i v (ok_arr (okSL_head hok)) (ok_int (okSL_head (okSL_tail hok))) (ok_int (okSL_head (okSL_tail (okSL_tail hok))))

/-! trap_Return -/

def S_trap_Return : Spec := sig [.core] [.core] (fun (c, _) => K.ret c)
noncomputable def E_trap_Return : Env := EB.adds []

theorem ok_trap_Return : EnvOk E_trap_Return := okEB.adds (l := _) trivial

theorem t_trap_Return (c : PCore) : evF E_trap_Return 60 56 (encArgs [.core] (c, ())) = 
  bif (bne (andI IntKind.u32 (List.getD c.csr 0 (0 : Int)) (4 : Int)) (0 : Int)) then
    (bif (bne (andI IntKind.u32 (List.getD c.csr 0 (0 : Int)) (8 : Int)) (0 : Int)) then
      (Tree.leaf (SV.agg [(SV.arr IntKind.u32 16 c.regs), (SV.v (Value.int IntKind.u32 (List.getD c.csr 1 (0 : Int)))), (SV.arr IntKind.u32 12 (List.set c.csr 0 (orI IntKind.u32 (orI IntKind.u32 (List.getD c.csr 0 (0 : Int)) (1 : Int)) (2 : Int))))]))
    else
      (Tree.leaf (SV.agg [(SV.arr IntKind.u32 16 c.regs), (SV.v (Value.int IntKind.u32 (List.getD c.csr 1 (0 : Int)))), (SV.arr IntKind.u32 12 (List.set c.csr 0 (andNotI IntKind.u32 (orI IntKind.u32 (List.getD c.csr 0 (0 : Int)) (1 : Int)) (2 : Int))))])))
  else
    (bif (bne (andI IntKind.u32 (List.getD c.csr 0 (0 : Int)) (8 : Int)) (0 : Int)) then
      (Tree.leaf (SV.agg [(SV.arr IntKind.u32 16 c.regs), (SV.v (Value.int IntKind.u32 (List.getD c.csr 1 (0 : Int)))), (SV.arr IntKind.u32 12 (List.set c.csr 0 (orI IntKind.u32 (andNotI IntKind.u32 (List.getD c.csr 0 (0 : Int)) (1 : Int)) (2 : Int))))]))
    else
      (Tree.leaf (SV.agg [(SV.arr IntKind.u32 16 c.regs), (SV.v (Value.int IntKind.u32 (List.getD c.csr 1 (0 : Int)))), (SV.arr IntKind.u32 12 (List.set c.csr 0 (andNotI IntKind.u32 (andNotI IntKind.u32 (List.getD c.csr 0 (0 : Int)) (1 : Int)) (2 : Int))))]))) := by kernel_rfl
theorem a_trap_Return (c : PCore) (ok_c : okCore c) : (evF E_trap_Return 60 56 (encArgs [.core] (c, ()))).ends fun out_ => decO [.core] out_ = some (K.ret c) := by
  rw [t_trap_Return, Tree.ends_holds]
  obtain ⟨s0, s1⟩ := ok_c.csr.u32 (i := 0) (by omega)
  simp only [Tree.holds_loop, Tree.holds_fork, Tree.holds_next, if_true, Tree.holds_cond, Tree.holds_letv, Tree.holds_leaf, Tree.holds_fail, decO, decA, decTup, decMach, decCore, decTrap, decInstr, decPart, decGuest, decConf, decEvent, decVcpu, decStep, bytesS, boolS, eventsS, intsS, guestsS, vcpusS, rowS, castL, Option.bind_some, Option.map_some, Option.some.injEq, Nat.beq_refl, beq_self_eq_true, Bool.and_self, cond_true, cond_false, eq_self, K.ret, K.retS]
  generalize c.csr.getD 0 0 = s at *
  simp only [and_4 s0 s1, and_8 s0 s1, or_1 s0 s1, andNot_1 s0 s1]
  have a2 : ∀ x : Int, 0 ≤ x → x < 4294967296 → orI .u32 x 2 = x + 2 * (1 - x / 2 % 2) := fun x h0 h1 => or_2 h0 h1
  have a3 : ∀ x : Int, 0 ≤ x → x < 4294967296 → andNotI .u32 x 2 = x - 2 * (x / 2 % 2) := fun x h0 h1 => andNot_2 h0 h1
  rw [a2 _ (by omega) (by omega), a2 _ (by omega) (by omega), a3 _ (by omega) (by omega), a3 _ (by omega) (by omega)]
  simp only [bne_iff_ne, ne_eq, bne_eq_false_iff_eq]
  refine ⟨fun h1 => ⟨fun h2 => ?_, fun h2 => ?_⟩, fun h1 => ⟨fun h2 => ?_, fun h2 => ?_⟩⟩ <;> (congr 2; omega)
  
theorem c_trap_Return : SpecOk EB 56 S_trap_Return := spec_sig ok_trap_Return (n := 60) fun ⟨c, ⟨⟩⟩ h hok => a_trap_Return c (ok_core (okSL_head hok))

/-! csr_Read -/

def S_csr_Read : Spec := sig [.a .u32 12, .i .u64, .i .i64] [.i .u32] (fun (c, time, n, _) => K.csrRead c time n)
noncomputable def E_csr_Read : Env := EB.adds []

theorem ok_csr_Read : EnvOk E_csr_Read := okEB.adds (l := _) trivial

theorem t_csr_Read (c : List Int) (time : Int) (n : Int) : evF E_csr_Read 60 58 (encArgs [.a .u32 12, .i .u64, .i .i64] (c, time, n, ())) = 
  bif (BEq.beq n (7 : Int)) then
    (Tree.leaf (SV.v (Value.int IntKind.u32 (IntKind.wrap IntKind.u32 time))))
  else
    (bif (BEq.beq n (8 : Int)) then
      (Tree.leaf (SV.v (Value.int IntKind.u32 (IntKind.wrap IntKind.u32 (Int.fdiv time (4294967296 : Int))))))
    else
      (bif (decide (n ≥ (0 : Int))) then
        (bif (decide (n < (12 : Int))) then
          (bif (inRange n 12) then
            (Tree.leaf (SV.v (Value.int IntKind.u32 (List.getD c ((Int.toNat n)) (0 : Int)))))
          else
            (Tree.fail))
        else
          (Tree.leaf (SV.v (Value.int IntKind.u32 (0 : Int)))))
      else
        (Tree.leaf (SV.v (Value.int IntKind.u32 (0 : Int)))))) := by kernel_rfl
theorem a_csr_Read (c : List Int) (time : Int) (n : Int) (ok_c : okL .u32 12 c) (ok_time : okI .u64 time) (ok_n : okI .i64 n) : (evF E_csr_Read 60 58 (encArgs [.a .u32 12, .i .u64, .i .i64] (c, time, n, ()))).ends fun out_ => decO [.i .u32] out_ = some (K.csrRead c time n) := by
  rw [t_csr_Read, Tree.ends_holds]
  obtain ⟨t0, t1⟩ := okI_u64 ok_time
  have e1 : IntKind.u32.wrap (Int.fdiv time 4294967296) = time / 4294967296 := by rw [Int.fdiv_eq_ediv_of_nonneg _ (by omega), wrap32]; omega
  simp only [Tree.holds_loop, Tree.holds_fork, Tree.holds_next, if_true, Tree.holds_cond, Tree.holds_letv, Tree.holds_leaf, Tree.holds_fail, decO, decA, decTup, decMach, decCore, decTrap, decInstr, decPart, decGuest, decConf, decEvent, decVcpu, decStep, bytesS, boolS, eventsS, intsS, guestsS, vcpusS, rowS, castL, Option.bind_some, Option.map_some, Option.some.injEq, Nat.beq_refl, beq_self_eq_true, Bool.and_self, cond_true, cond_false, eq_self, K.csrRead, e1, wrap32]
  grind [inRange]
  
theorem c_csr_Read : SpecOk EB 58 S_csr_Read := spec_sig ok_csr_Read (n := 60) fun ⟨c, time, n, ⟨⟩⟩ h hok => a_csr_Read c time n (ok_arr (okSL_head hok)) (ok_int (okSL_head (okSL_tail hok))) (ok_int (okSL_head (okSL_tail (okSL_tail hok))))

/-! csr_masks -/

def S_csr_masks : Spec := sig [] [.a .u32 12] (fun _ => K.mk)
noncomputable def E_csr_masks : Env := EB.adds []

theorem ok_csr_masks : EnvOk E_csr_masks := okEB.adds (l := _) trivial

theorem t_csr_masks : evF E_csr_masks 60 91 (encArgs [] ()) = 
  Tree.leaf (SV.agg [(SV.arr IntKind.u32 12 [(14 : Int), (4294967292 : Int), (4294967295 : Int), (4294967295 : Int), (4294967292 : Int), (4294967292 : Int), (4294967295 : Int), (0 : Int), (0 : Int), (4294967295 : Int), (4294967295 : Int), (4294967295 : Int)])]) := by kernel_rfl
theorem a_csr_masks : (evF E_csr_masks 60 91 (encArgs [] ())).ends fun out_ => decO [.a .u32 12] out_ = some (K.mk) := by
  rw [t_csr_masks, Tree.ends_holds]
  rfl
  
theorem c_csr_masks : SpecOk EB 91 S_csr_masks := spec_sig ok_csr_masks (n := 60) fun () h hok => a_csr_masks 

/-! csr_Write -/

def S_csr_Write : Spec := sig [.a .u32 12, .i .i64, .i .u32] [.a .u32 12] (fun (c, n, v, _) => K.csrWrite c n v)
noncomputable def E_csr_Write : Env := EB.adds [(91, S_csr_masks)]

theorem ok_csr_Write : EnvOk E_csr_Write := okEB.adds (l := _) ⟨c_csr_masks, trivial⟩

theorem t_csr_Write (c : List Int) (n : Int) (v : Int) : evF E_csr_Write 60 59 (encArgs [.a .u32 12, .i .i64, .i .u32] (c, n, v, ())) = 
  bif (decide (n ≥ (0 : Int))) then
    (bif (decide (n < (12 : Int))) then
      (bif (inRange n 12) then
        (Tree.letv (okO [(AT.a IntKind.u32 12)]) K.mk fun x0 =>
        (bif (inRange n 12) then
          (Tree.letv (okO [(AT.a IntKind.u32 12)]) K.mk fun x1 =>
          (bif (inRange n 12) then
            (bif (inRange n 12) then
              (Tree.leaf (SV.agg [(SV.arr IntKind.u32 12 (List.set c ((Int.toNat n)) (orI IntKind.u32 (andNotI IntKind.u32 (List.getD c ((Int.toNat n)) (0 : Int)) (List.getD x0 ((Int.toNat n)) (0 : Int))) (andI IntKind.u32 v (List.getD x1 ((Int.toNat n)) (0 : Int))))))]))
            else
              (Tree.fail))
          else
            (Tree.fail)))
        else
          (Tree.fail)))
      else
        (Tree.fail))
    else
      (Tree.leaf (SV.agg [(SV.arr IntKind.u32 12 c)])))
  else
    (Tree.leaf (SV.agg [(SV.arr IntKind.u32 12 c)])) := by kernel_rfl
theorem a_csr_Write (c : List Int) (n : Int) (v : Int) (ok_c : okL .u32 12 c) (ok_n : okI .i64 n) (ok_v : okI .u32 v) : (evF E_csr_Write 60 59 (encArgs [.a .u32 12, .i .i64, .i .u32] (c, n, v, ()))).ends fun out_ => decO [.a .u32 12] out_ = some (K.csrWrite c n v) := by
  rw [t_csr_Write, Tree.ends_holds]
  simp only [Tree.holds_loop, Tree.holds_fork, Tree.holds_next, if_true, Tree.holds_cond, Tree.holds_letv, Tree.holds_leaf, Tree.holds_fail, decO, decA, decTup, decMach, decCore, decTrap, decInstr, decPart, decGuest, decConf, decEvent, decVcpu, decStep, bytesS, boolS, eventsS, intsS, guestsS, vcpusS, rowS, castL, Option.bind_some, Option.map_some, Option.some.injEq, Nat.beq_refl, beq_self_eq_true, Bool.and_self, cond_true, cond_false, eq_self, K.csrWrite, K.mix]
  by_cases hn : 0 ≤ n ∧ n < 12
  · simp only [hn.1, hn.2, inRange_iff.2 (show 0 ≤ n ∧ n < ((12 : Nat) : Int) from hn), ge_iff_le, decide_true, and_self, if_true]; simp
  · simp only [if_neg hn, inRange_iff]
    refine ⟨fun h1 => ⟨fun h2 => absurd ⟨by simpa using h1, by simpa using h2⟩ hn, fun _ => trivial⟩, fun _ => trivial⟩
  
theorem c_csr_Write : SpecOk EB 59 S_csr_Write := spec_sig ok_csr_Write (n := 60) fun ⟨c, n, v, ⟨⟩⟩ h hok => a_csr_Write c n v (ok_arr (okSL_head hok)) (ok_int (okSL_head (okSL_tail hok))) (ok_int (okSL_head (okSL_tail (okSL_tail hok))))

/-! priv_Execute -/

def S_priv_Execute : Spec := sig [.mach, .instr] [.mach] (fun (m, i, _) => K.priv m i) (pre := fun (m, i, _) => decide (m.out.length ≤ 1099511627776))
noncomputable def E_priv_Execute : Env := EB.adds [(55, S_regs_Get), (57, S_regs_Set), (56, S_trap_Return), (58, S_csr_Read), (59, S_csr_Write)]

theorem ok_priv_Execute : EnvOk E_priv_Execute := okEB.adds (l := _) ⟨c_regs_Get, c_regs_Set, c_trap_Return, c_csr_Read, c_csr_Write, trivial⟩

theorem t_priv_Execute (m : PMach) (i : PInstr) : evF E_priv_Execute 60 37 (encArgs [.mach, .instr] (m, i, ())) = 
  Tree.letv (okO [(AT.i IntKind.u32)]) (K.get m.core.regs i.ra) fun x0 =>
  (bif (BEq.beq i.op (23 : Int)) then
    (Tree.letv (okO [AT.core]) (K.ret m.core) fun x1 =>
    (Tree.leaf (SV.agg [(SV.arr IntKind.u32 16 x1.regs), (SV.v (Value.int IntKind.u32 x1.pc)), (SV.arr IntKind.u32 12 x1.csr), (SV.rd ETy.u8 m.mem), (SV.v (Value.int IntKind.u64 m.time)), (SV.rd ETy.u8 m.out), (SV.v (Value.bool m.halted))])))
  else
    (bif (BEq.beq i.op (21 : Int)) then
      (Tree.letv (okO [(AT.i IntKind.u32)]) (K.csrRead m.core.csr m.time (IntKind.wrap IntKind.i64 i.imm)) fun x1 =>
      (Tree.letv (okO [(AT.a IntKind.u32 16)]) (K.put m.core.regs i.rd x1) fun x2 =>
      (Tree.leaf (SV.agg [(SV.arr IntKind.u32 16 x2), (SV.v (Value.int IntKind.u32 (IntKind.wrap IntKind.u32 (m.core.pc + (4 : Int))))), (SV.arr IntKind.u32 12 m.core.csr), (SV.rd ETy.u8 m.mem), (SV.v (Value.int IntKind.u64 m.time)), (SV.rd ETy.u8 m.out), (SV.v (Value.bool m.halted))]))))
    else
      (bif (BEq.beq i.op (22 : Int)) then
        (Tree.letv (okO [(AT.a IntKind.u32 12)]) (K.csrWrite m.core.csr (IntKind.wrap IntKind.i64 i.imm) x0) fun x1 =>
        (Tree.leaf (SV.agg [(SV.arr IntKind.u32 16 m.core.regs), (SV.v (Value.int IntKind.u32 (IntKind.wrap IntKind.u32 (m.core.pc + (4 : Int))))), (SV.arr IntKind.u32 12 x1), (SV.rd ETy.u8 m.mem), (SV.v (Value.int IntKind.u64 m.time)), (SV.rd ETy.u8 m.out), (SV.v (Value.bool m.halted))])))
      else
        (bif (BEq.beq i.op (24 : Int)) then
          (Tree.leaf (SV.agg [(SV.arr IntKind.u32 16 m.core.regs), (SV.v (Value.int IntKind.u32 (IntKind.wrap IntKind.u32 (m.core.pc + (4 : Int))))), (SV.arr IntKind.u32 12 m.core.csr), (SV.rd ETy.u8 m.mem), (SV.v (Value.int IntKind.u64 m.time)), (SV.rd ETy.u8 m.out), (SV.b true)]))
        else
          (bif (BEq.beq i.op (25 : Int)) then
            (bif (Bool.and (decide ((0 : Int) ≤ (Int.ofNat (List.length m.out)))) (Bool.and (decide ((Int.ofNat (List.length m.out)) ≤ (Int.ofNat (List.length m.out)))) (decide ((Int.ofNat (List.length m.out)) = (Int.ofNat (List.length m.out)))))) then
              (bif (Nat.ble (((List.length (List.drop 0 (List.take (Int.toNat (Int.ofNat (List.length m.out))) m.out))) + 1) * 1) 140737488355328) then
                (Tree.leaf (SV.agg [(SV.arr IntKind.u32 16 m.core.regs), (SV.v (Value.int IntKind.u32 (IntKind.wrap IntKind.u32 (m.core.pc + (4 : Int))))), (SV.arr IntKind.u32 12 m.core.csr), (SV.rd ETy.u8 m.mem), (SV.v (Value.int IntKind.u64 m.time)), (SV.rd ETy.u8 (List.append (List.drop 0 (List.take (Int.toNat (Int.ofNat (List.length m.out))) m.out)) [(IntKind.wrap IntKind.u8 x0)])), (SV.v (Value.bool m.halted))]))
              else
                (Tree.fail))
            else
              (Tree.fail))
          else
            (Tree.leaf (SV.agg [(SV.arr IntKind.u32 16 m.core.regs), (SV.v (Value.int IntKind.u32 (IntKind.wrap IntKind.u32 (m.core.pc + (4 : Int))))), (SV.arr IntKind.u32 12 m.core.csr), (SV.rd ETy.u8 m.mem), (SV.v (Value.int IntKind.u64 m.time)), (SV.rd ETy.u8 m.out), (SV.v (Value.bool m.halted))]))))))) := by kernel_rfl
theorem a_priv_Execute (m : PMach) (i : PInstr) (hpre : m.out.length ≤ 1099511627776) (ok_m : okMach m) (ok_i : okInstr i) : (evF E_priv_Execute 60 37 (encArgs [.mach, .instr] (m, i, ()))).ends fun out_ => decO [.mach] out_ = some (K.priv m i) := by
  rw [t_priv_Execute, Tree.ends_holds]
  obtain ⟨a, b⟩ := okI_i32 ok_i.imm
  have e1 : IntKind.i64.wrap i.imm = i.imm := wrapI64 (by omega) (by omega)
  obtain ⟨g0, g1⟩ := K.get_ok ok_m.core.regs i.ra
  have e2 : Int.tmod (K.get m.core.regs i.ra) 256 = K.get m.core.regs i.ra % 256 := Int.tmod_eq_emod_of_nonneg g0
  simp only [Tree.holds_loop, Tree.holds_fork, Tree.holds_next, if_true, Tree.holds_cond, Tree.holds_letv, Tree.holds_leaf, Tree.holds_fail, decO, decA, decTup, decMach, decCore, decTrap, decInstr, decPart, decGuest, decConf, decEvent, decVcpu, decStep, bytesS, boolS, eventsS, intsS, guestsS, vcpusS, rowS, castL, Option.bind_some, Option.map_some, Option.some.injEq, Nat.beq_refl, beq_self_eq_true, Bool.and_self, cond_true, cond_false, eq_self, e1, e2, wrap8, wrap32, beq_iff_eq, beq_eq_false_iff_ne, bne_iff_ne, bne_eq_false_iff_eq, ne_eq, decide_eq_true_eq, decide_eq_false_iff_not, ble_true, ble_false, inRange_iff, inRange_false, List.drop_zero, Int.ofNat_eq_natCast, Int.toNat_natCast, List.take_length, List.append_eq, Bool.and_eq_true, decide_true, and_true, true_and, Int.emod_emod]
  repeat' (first | refine drop_ok ?_ | intro _ | with_reducible apply And.intro)
  all_goals first | omega | (simp_all [K.priv, K.adv]; done) | skip
  
theorem c_priv_Execute : SpecOk EB 37 S_priv_Execute := spec_sig ok_priv_Execute (n := 60) fun ⟨m, i, ⟨⟩⟩ h hok => a_priv_Execute m i (of_decide_eq_true h) (ok_mach (okSL_head hok)) (ok_instr (okSL_head (okSL_tail hok)))

/-! vcpu_Machine -/

def S_vcpu_Machine : Spec := sig [.vcpu, .rd .u8, .i .u64] [.mach] (fun (v, mem, time, _) => K.vmach v mem time)
noncomputable def E_vcpu_Machine : Env := EB.adds []

theorem ok_vcpu_Machine : EnvOk E_vcpu_Machine := okEB.adds (l := _) trivial

theorem t_vcpu_Machine (v : PVcpu) (mem : List Int) (time : Int) : evF E_vcpu_Machine 60 38 (encArgs [.vcpu, .rd .u8, .i .u64] (v, mem, time, ())) = 
  bif v.halted then
    (Tree.leaf (SV.agg [(SV.arr IntKind.u32 16 v.core.regs), (SV.v (Value.int IntKind.u32 v.core.pc)), (SV.arr IntKind.u32 12 v.core.csr), (SV.rd ETy.u8 mem), (SV.v (Value.int IntKind.u64 time)), (SV.rd ETy.u8 v.out), (SV.b true)]))
  else
    (Tree.leaf (SV.agg [(SV.arr IntKind.u32 16 v.core.regs), (SV.v (Value.int IntKind.u32 v.core.pc)), (SV.arr IntKind.u32 12 v.core.csr), (SV.rd ETy.u8 mem), (SV.v (Value.int IntKind.u64 time)), (SV.rd ETy.u8 v.out), (SV.b false)])) := by kernel_rfl
theorem a_vcpu_Machine (v : PVcpu) (mem : List Int) (time : Int) (ok_v : okVcpu v) (ok_mem : okBytes mem) (ok_time : okI .u64 time) : (evF E_vcpu_Machine 60 38 (encArgs [.vcpu, .rd .u8, .i .u64] (v, mem, time, ()))).ends fun out_ => decO [.mach] out_ = some (K.vmach v mem time) := by
  rw [t_vcpu_Machine, Tree.ends_holds]
  simp only [Tree.holds_loop, Tree.holds_fork, Tree.holds_next, if_true, Tree.holds_cond, Tree.holds_letv, Tree.holds_leaf, Tree.holds_fail, decO, decA, decTup, decMach, decCore, decTrap, decInstr, decPart, decGuest, decConf, decEvent, decVcpu, decStep, bytesS, boolS, eventsS, intsS, guestsS, vcpusS, rowS, castL, Option.bind_some, Option.map_some, Option.some.injEq, Nat.beq_refl, beq_self_eq_true, Bool.and_self, cond_true, cond_false, eq_self, K.vmach]
  cases v.halted <;> simp
  
theorem c_vcpu_Machine : SpecOk EB 38 S_vcpu_Machine := spec_sig ok_vcpu_Machine (n := 60) fun ⟨v, mem, time, ⟨⟩⟩ h hok => a_vcpu_Machine v mem time (ok_vcpu (okSL_head hok)) (ok_bytes (okSL_head (okSL_tail hok))) (ok_int (okSL_head (okSL_tail (okSL_tail hok))))

/-! emul_Emulate -/

def S_emul_Emulate : Spec := sig [.vcpu, .i .u32, .i .u64] [.vcpu] (fun (v, w, time, _) => K.emu v w time) (pre := fun (v, w, time, _) => decide (v.out.length ≤ 1099511627776 ∧ v.log.length ≤ 1099511627776))
noncomputable def E_emul_Emulate : Env := EB_0_1.adds [(33, S_emul_of), (34, S_priv_ReadsTime), (35, S_emul_seen), (36, S_vcpu_WithMachine), (37, S_priv_Execute), (38, S_vcpu_Machine)]

theorem ok_emul_Emulate : EnvOk E_emul_Emulate := okEB_0_1.adds (l := _) ⟨c_emul_of, (up_to_0_1 c_priv_ReadsTime), (up_to_0_1 c_emul_seen), (up_to_0_1 c_vcpu_WithMachine), (up_to_0_1 c_priv_Execute), (up_to_0_1 c_vcpu_Machine), trivial⟩

theorem t_emul_Emulate (v : PVcpu) (w : Int) (time : Int) : evF E_emul_Emulate 60 14 (encArgs [.vcpu, .i .u32, .i .u64] (v, w, time, ())) = 
  Tree.letv (okO [AT.instr, AT.b]) ((K.decode w).fst, (K.isPriv w)) fun x0 =>
  (bif x0.snd then
    (Tree.letv (okO [AT.b]) (K.reads x0.fst) fun x1 =>
    (bif x1 then
      (bif (Bool.and (decide ((0 : Int) ≤ (Int.ofNat (List.length v.log)))) (Bool.and (decide ((Int.ofNat (List.length v.log)) ≤ (Int.ofNat (List.length v.log)))) (decide ((Int.ofNat (List.length v.log)) = (Int.ofNat (List.length v.log)))))) then
        (Tree.letv (okO [AT.event]) (K.seen x0.fst v.done time) fun x2 =>
        (bif (Nat.ble (((List.length (List.drop 0 (List.take (Int.toNat (Int.ofNat (List.length v.log))) v.log))) + 1) * 24) 140737488355328) then
          (Tree.letv (okO [AT.mach]) (K.vmach (PVcpu.mk v.core v.out v.halted v.done (List.append (List.drop 0 (List.take (Int.toNat (Int.ofNat (List.length v.log))) v.log)) [x2])) [] time) fun x3 =>
          (bif (decide ((List.length x3.out) ≤ 1099511627776)) then
            (Tree.letv (okO [AT.mach]) (K.priv x3 x0.fst) fun x4 =>
            (Tree.letv (okO [AT.vcpu]) (K.vwith (PVcpu.mk v.core v.out v.halted v.done (List.append (List.drop 0 (List.take (Int.toNat (Int.ofNat (List.length v.log))) v.log)) [x2])) x4) fun x5 =>
            (Tree.leaf (SV.agg [(SV.arr IntKind.u32 16 x5.core.regs), (SV.v (Value.int IntKind.u32 x5.core.pc)), (SV.arr IntKind.u32 12 x5.core.csr), (SV.rd ETy.u8 x5.out), (SV.v (Value.bool x5.halted)), (SV.v (Value.int IntKind.i64 (IntKind.wrap IntKind.i64 (x5.done + (1 : Int))))), (SV.rd ETy.event x5.log)]))))
          else
            (Tree.fail)))
        else
          (Tree.fail)))
      else
        (Tree.fail))
    else
      (Tree.letv (okO [AT.mach]) (K.vmach v [] time) fun x2 =>
      (bif (decide ((List.length x2.out) ≤ 1099511627776)) then
        (Tree.letv (okO [AT.mach]) (K.priv x2 x0.fst) fun x3 =>
        (Tree.letv (okO [AT.vcpu]) (K.vwith v x3) fun x4 =>
        (Tree.leaf (SV.agg [(SV.arr IntKind.u32 16 x4.core.regs), (SV.v (Value.int IntKind.u32 x4.core.pc)), (SV.arr IntKind.u32 12 x4.core.csr), (SV.rd ETy.u8 x4.out), (SV.v (Value.bool x4.halted)), (SV.v (Value.int IntKind.i64 (IntKind.wrap IntKind.i64 (x4.done + (1 : Int))))), (SV.rd ETy.event x4.log)]))))
      else
        (Tree.fail)))))
  else
    (Tree.leaf (SV.agg [(SV.arr IntKind.u32 16 v.core.regs), (SV.v (Value.int IntKind.u32 v.core.pc)), (SV.arr IntKind.u32 12 v.core.csr), (SV.rd ETy.u8 v.out), (SV.v (Value.bool v.halted)), (SV.v (Value.int IntKind.i64 v.done)), (SV.rd ETy.event v.log)]))) := by kernel_rfl
theorem a_emul_Emulate (v : PVcpu) (w : Int) (time : Int) (hpre : v.out.length ≤ 1099511627776 ∧ v.log.length ≤ 1099511627776) (ok_v : okVcpu v) (ok_w : okI .u32 w) (ok_time : okI .u64 time) : (evF E_emul_Emulate 60 14 (encArgs [.vcpu, .i .u32, .i .u64] (v, w, time, ()))).ends fun out_ => decO [.vcpu] out_ = some (K.emu v w time) := by
  rw [t_emul_Emulate, Tree.ends_holds]
  simp only [Tree.holds_loop, Tree.holds_fork, Tree.holds_next, if_true, Tree.holds_cond, Tree.holds_letv, Tree.holds_leaf, Tree.holds_fail, decO, decA, decTup, decMach, decCore, decTrap, decInstr, decPart, decGuest, decConf, decEvent, decVcpu, decStep, bytesS, boolS, eventsS, intsS, guestsS, vcpusS, rowS, castL, Option.bind_some, Option.map_some, Option.some.injEq, Nat.beq_refl, beq_self_eq_true, Bool.and_self, cond_true, cond_false, eq_self, beq_iff_eq, beq_eq_false_iff_ne, bne_iff_ne, bne_eq_false_iff_eq, ne_eq, decide_eq_true_eq, decide_eq_false_iff_not, ble_true, ble_false, inRange_iff, inRange_false, List.drop_zero, Int.ofNat_eq_natCast, Int.toNat_natCast, List.take_length, List.append_eq, Bool.and_eq_true, decide_true, and_true, true_and, K.vwith, K.vmach, wrap_inc ok_v.done]
  have e1 : K.isPriv w = true → K.emu v w time = (let i := (K.decode w).1; let m := K.priv (K.vmach v [] time) i; { core := m.core, out := m.out, halted := m.halted, done := K.inc v.done, log := if K.reads i = true then v.log ++ [K.seen i v.done time] else v.log }) := fun h => by unfold K.emu; rw [if_pos h]
  have e2 : K.isPriv w = false → K.emu v w time = v := fun h => by unfold K.emu; rw [if_neg (by rw [h]; decide)]
  simp only [K.vmach] at e1
  repeat' (first | refine drop_ok ?_ | intro _ | with_reducible apply And.intro)
  all_goals first | omega | (rw [e1 (by assumption)]; simp_all; done) | (rw [e2 (by assumption)]) | (clear e1 e2; simp_all; done) | (clear e1 e2; simp_all; omega)
  
theorem c_emul_Emulate : SpecOk EB_0_1 14 S_emul_Emulate := spec_sig ok_emul_Emulate (n := 60) fun ⟨v, w, time, ⟨⟩⟩ h hok => a_emul_Emulate v w time (of_decide_eq_true h) (ok_vcpu (okSL_head hok)) (ok_int (okSL_head (okSL_tail hok))) (ok_int (okSL_head (okSL_tail (okSL_tail hok))))

/-! ref05_Same -/
@[reducible] def L_ref05_Same (a b : List Int) : LoopSpec where
  σ := Nat
  slots := [0, 1, 4, 5]
  keys := []
  vals := fun j => [.rd .u8 a, .rd .u8 b, .b false, .v (.int .i64 (j : Int))]
  blks := fun _ => []
  inv := fun j => j ≤ a.length ∧ a.take j = b.take j
  mu := fun j => a.length - j
def S_ref05_Same : Spec := sig [.rd .u8, .rd .u8] [.b] (fun (a, b, _) => decide (a = b))
noncomputable def E_ref05_Same : Env := EB.adds []

theorem ok_ref05_Same : EnvOk E_ref05_Same := okEB.adds (l := _) trivial

theorem t_ref05_Same (a : List Int) (b : List Int) : evFL E_ref05_Same (fun _ => some (L_ref05_Same a b)) 60 28 (encArgs [.rd .u8, .rd .u8] (a, b, ())) = 
  bif (bne (Int.ofNat (List.length a)) (Int.ofNat (List.length b))) then
    (Tree.leaf (SV.b false))
  else
    (Tree.loop 0 (L_ref05_Same a b) [(SV.rd ETy.u8 a), (SV.rd ETy.u8 b), (SV.b false), (SV.v (Value.int IntKind.i64 (0 : Int)))] [] fun (x0 : Nat) =>
    (bif (decide ((Int.ofNat x0) < (Int.ofNat (List.length a)))) then
      (bif (inRange (Int.ofNat x0) (List.length a)) then
        (bif (inRange (Int.ofNat x0) (List.length b)) then
          (bif (bne (List.getD a (Int.toNat (Int.ofNat x0)) (0 : Int)) (List.getD b (Int.toNat (Int.ofNat x0)) (0 : Int))) then
            (Tree.leaf (SV.b false))
          else
            ((Tree.next 0 [(SV.rd ETy.u8 a), (SV.rd ETy.u8 b), (SV.b false), (SV.v (Value.int IntKind.i64 (IntKind.wrap IntKind.i64 ((Int.ofNat x0) + (1 : Int)))))] [])))
        else
          (Tree.fail))
      else
        (Tree.fail))
    else
      (Tree.leaf (SV.b true)))) := by kernel_rfl
theorem a_ref05_Same (a : List Int) (b : List Int) (ok_a : okBytes a) (ok_b : okBytes b) : (evFL E_ref05_Same (fun _ => some (L_ref05_Same a b)) 60 28 (encArgs [.rd .u8, .rd .u8] (a, b, ()))).ends fun out_ => decO [.b] out_ = some (decide (a = b)) := by
  rw [t_ref05_Same, Tree.ends_holds]
  simp only [Tree.holds_cond, Tree.holds_leaf, Tree.holds_loop]
  refine ⟨fun h => ?_, fun h => ?_⟩
  · have h : ¬ ((a.length : Int) = (b.length : Int)) := by simpa using h
    have : a ≠ b := fun e => h (by rw [e])
    simp [decO, decA, decTup, decMach, decCore, decTrap, decInstr, decPart, decGuest, decConf, decEvent, decVcpu, decStep, bytesS, boolS, eventsS, intsS, guestsS, vcpusS, rowS, castL, Option.bind_some, Option.map_some, Option.some.injEq, Nat.beq_refl, beq_self_eq_true, Bool.and_self, cond_true, cond_false, eq_self, this]
  have hl : (a.length : Int) = (b.length : Int) := by simpa using h
  have hl : a.length = b.length := by omega
  have hlim : a.length ≤ 140737488355328 := ok_a.1
  refine ⟨⟨(0 : Nat), rfl, rfl, ⟨Nat.zero_le _, rfl⟩, trivial⟩, fun (j : Nat) ⟨hj, he⟩ => ?_⟩
  simp only [Tree.holds_loop, Tree.holds_fork, Tree.holds_next, if_true, Tree.holds_cond, Tree.holds_letv, Tree.holds_leaf, Tree.holds_fail]
  refine ⟨fun h => ?_, fun h => ?_⟩
  · have hlt : j < a.length := by simpa using h
    have r1 : inRange (j : Int) a.length = true := inRange_iff.2 ⟨by omega, by omega⟩
    have r2 : inRange (j : Int) b.length = true := inRange_iff.2 ⟨by omega, by omega⟩
    have e2 : IntKind.i64.wrap ((j : Int) + 1) = ((j + 1 : Nat) : Int) := by rw [wrapI64 (by omega) (by omega)]; rfl
    have ga : a.getD j 0 = a[j] := by simp [hlt]
    have gb : b.getD j 0 = b[j]'(by omega) := by simp [show j < b.length by omega]
    simp only [Int.ofNat_eq_natCast, Int.toNat_natCast, r1, r2, ga, gb]
    simp only [true_implies, Bool.true_eq_false, false_implies, and_true]
    refine ⟨fun q => ?_, fun q => ?_⟩
    · have : a ≠ b := fun e => by subst e; simp at q
      simp [decO, decA, decTup, decMach, decCore, decTrap, decInstr, decPart, decGuest, decConf, decEvent, decVcpu, decStep, bytesS, boolS, eventsS, intsS, guestsS, vcpusS, rowS, castL, Option.bind_some, Option.map_some, Option.some.injEq, Nat.beq_refl, beq_self_eq_true, Bool.and_self, cond_true, cond_false, eq_self, this]
    · have q : a[j] = b[j]'(by omega) := by simpa using q
      refine ⟨j + 1, by rw [e2], rfl, ⟨by omega, ?_⟩, by show a.length - (j + 1) < a.length - j; omega⟩
      rw [List.take_succ_eq_append_getElem hlt, List.take_succ_eq_append_getElem (show j < b.length by omega), he, q]
  · have : j = a.length := by simp at h; omega
    subst this
    have : a = b := by rw [List.take_length] at he; rw [hl, List.take_length] at he; exact he
    simp [decO, decA, decTup, decMach, decCore, decTrap, decInstr, decPart, decGuest, decConf, decEvent, decVcpu, decStep, bytesS, boolS, eventsS, intsS, guestsS, vcpusS, rowS, castL, Option.bind_some, Option.map_some, Option.some.injEq, Nat.beq_refl, beq_self_eq_true, Bool.and_self, cond_true, cond_false, eq_self, this]
  
theorem c_ref05_Same : SpecOk EB 28 S_ref05_Same := spec_sigL ok_ref05_Same (n := 60) (fun (a, b, _) => fun _ => some (L_ref05_Same a b)) fun ⟨a, b, ⟨⟩⟩ h hok => a_ref05_Same a b (ok_bytes (okSL_head hok)) (ok_bytes (okSL_head (okSL_tail hok)))

/-! ref16_Events -/
@[reducible] def L_ref16_Events (a b : List PEvent) : LoopSpec where
  σ := Nat
  slots := [0, 1, 4, 5]
  keys := []
  vals := fun j => [.rd .event a, .rd .event b, .b false, .v (.int .i64 (j : Int))]
  blks := fun _ => []
  inv := fun j => j ≤ a.length ∧ a.take j = b.take j
  mu := fun j => a.length - j
def S_ref16_Events : Spec := sig [.rd .event, .rd .event] [.b] (fun (a, b, _) => decide (a = b))
noncomputable def E_ref16_Events : Env := EB.adds []

theorem ok_ref16_Events : EnvOk E_ref16_Events := okEB.adds (l := _) trivial

theorem t_ref16_Events (a : List PEvent) (b : List PEvent) : evFL E_ref16_Events (fun _ => some (L_ref16_Events a b)) 60 18 (encArgs [.rd .event, .rd .event] (a, b, ())) = 
  bif (bne (Int.ofNat (List.length a)) (Int.ofNat (List.length b))) then
    (Tree.leaf (SV.b false))
  else
    (Tree.loop 0 (L_ref16_Events a b) [(SV.rd ETy.event a), (SV.rd ETy.event b), (SV.b false), (SV.v (Value.int IntKind.i64 (0 : Int)))] [] fun (x0 : Nat) =>
    (bif (decide ((Int.ofNat x0) < (Int.ofNat (List.length a)))) then
      (bif (inRange (Int.ofNat x0) (List.length a)) then
        (bif (inRange (Int.ofNat x0) (List.length b)) then
          (bif (Bool.not (Bool.and (BEq.beq (List.getD a (Int.toNat (Int.ofNat x0)) (PEvent.mk (0 : Int) (0 : Int) (0 : Int))).kind (List.getD b (Int.toNat (Int.ofNat x0)) (PEvent.mk (0 : Int) (0 : Int) (0 : Int))).kind) (Bool.and (BEq.beq (List.getD a (Int.toNat (Int.ofNat x0)) (PEvent.mk (0 : Int) (0 : Int) (0 : Int))).at_ (List.getD b (Int.toNat (Int.ofNat x0)) (PEvent.mk (0 : Int) (0 : Int) (0 : Int))).at_) (Bool.and (BEq.beq (List.getD a (Int.toNat (Int.ofNat x0)) (PEvent.mk (0 : Int) (0 : Int) (0 : Int))).time (List.getD b (Int.toNat (Int.ofNat x0)) (PEvent.mk (0 : Int) (0 : Int) (0 : Int))).time) true)))) then
            (Tree.leaf (SV.b false))
          else
            ((Tree.next 0 [(SV.rd ETy.event a), (SV.rd ETy.event b), (SV.b false), (SV.v (Value.int IntKind.i64 (IntKind.wrap IntKind.i64 ((Int.ofNat x0) + (1 : Int)))))] [])))
        else
          (Tree.fail))
      else
        (Tree.fail))
    else
      (Tree.leaf (SV.b true)))) := by kernel_rfl
theorem a_ref16_Events (a : List PEvent) (b : List PEvent) (ok_a : okEvents a) (ok_b : okEvents b) : (evFL E_ref16_Events (fun _ => some (L_ref16_Events a b)) 60 18 (encArgs [.rd .event, .rd .event] (a, b, ()))).ends fun out_ => decO [.b] out_ = some (decide (a = b)) := by
  rw [t_ref16_Events, Tree.ends_holds]
  simp only [Tree.holds_cond, Tree.holds_leaf, Tree.holds_loop]
  refine ⟨fun h => ?_, fun h => ?_⟩
  · have h : ¬ ((a.length : Int) = (b.length : Int)) := by simpa using h
    have : a ≠ b := fun e => h (by rw [e])
    simp [decO, decA, decTup, decMach, decCore, decTrap, decInstr, decPart, decGuest, decConf, decEvent, decVcpu, decStep, bytesS, boolS, eventsS, intsS, guestsS, vcpusS, rowS, castL, Option.bind_some, Option.map_some, Option.some.injEq, Nat.beq_refl, beq_self_eq_true, Bool.and_self, cond_true, cond_false, eq_self, this]
  have hl : (a.length : Int) = (b.length : Int) := by simpa using h
  have hl : a.length = b.length := by omega
  have hlim : a.length ≤ 140737488355328 := ok_a.1
  refine ⟨⟨(0 : Nat), rfl, rfl, ⟨Nat.zero_le _, rfl⟩, trivial⟩, fun (j : Nat) ⟨hj, he⟩ => ?_⟩
  simp only [Tree.holds_loop, Tree.holds_fork, Tree.holds_next, if_true, Tree.holds_cond, Tree.holds_letv, Tree.holds_leaf, Tree.holds_fail]
  refine ⟨fun h => ?_, fun h => ?_⟩
  · have hlt : j < a.length := by simpa using h
    have r1 : inRange (j : Int) a.length = true := inRange_iff.2 ⟨by omega, by omega⟩
    have r2 : inRange (j : Int) b.length = true := inRange_iff.2 ⟨by omega, by omega⟩
    have e2 : IntKind.i64.wrap ((j : Int) + 1) = ((j + 1 : Nat) : Int) := by rw [wrapI64 (by omega) (by omega)]; rfl
    have ga : a.getD j ⟨0, 0, 0⟩ = a[j] := by simp [hlt]
    have gb : b.getD j ⟨0, 0, 0⟩ = b[j]'(by omega) := by simp [show j < b.length by omega]
    simp only [Int.ofNat_eq_natCast, Int.toNat_natCast, r1, r2, ga, gb]
    simp only [true_implies, Bool.true_eq_false, false_implies, and_true]
    have hq : ((a[j].kind == (b[j]'(by omega)).kind && (a[j].at_ == (b[j]'(by omega)).at_ && a[j].time == (b[j]'(by omega)).time)) = true) ↔ a[j] = b[j]'(by omega) := by
      simp only [Bool.and_eq_true, beq_iff_eq]
      constructor
      · rintro ⟨q1, q2, q3⟩
        cases hx : a[j]; cases hy : b[j]'(by omega); simp_all
      · intro h; rw [h]; simp
    refine ⟨fun q => ?_, fun q => ?_⟩
    · have : a ≠ b := fun e => by subst e; simp at q
      simp [decO, decA, decTup, decMach, decCore, decTrap, decInstr, decPart, decGuest, decConf, decEvent, decVcpu, decStep, bytesS, boolS, eventsS, intsS, guestsS, vcpusS, rowS, castL, Option.bind_some, Option.map_some, Option.some.injEq, Nat.beq_refl, beq_self_eq_true, Bool.and_self, cond_true, cond_false, eq_self, this]
    · have q : a[j] = b[j]'(by omega) := hq.1 (by simpa using q)
      refine ⟨j + 1, by rw [e2], rfl, ⟨by omega, ?_⟩, by show a.length - (j + 1) < a.length - j; omega⟩
      rw [List.take_succ_eq_append_getElem hlt, List.take_succ_eq_append_getElem (show j < b.length by omega), he, q]
  · have : j = a.length := by simp at h; omega
    subst this
    have : a = b := by rw [List.take_length] at he; rw [hl, List.take_length] at he; exact he
    simp [decO, decA, decTup, decMach, decCore, decTrap, decInstr, decPart, decGuest, decConf, decEvent, decVcpu, decStep, bytesS, boolS, eventsS, intsS, guestsS, vcpusS, rowS, castL, Option.bind_some, Option.map_some, Option.some.injEq, Nat.beq_refl, beq_self_eq_true, Bool.and_self, cond_true, cond_false, eq_self, this]
  
theorem c_ref16_Events : SpecOk EB 18 S_ref16_Events := spec_sigL ok_ref16_Events (n := 60) (fun (a, b, _) => fun _ => some (L_ref16_Events a b)) fun ⟨a, b, ⟨⟩⟩ h hok => a_ref16_Events a b (ok_events (okSL_head hok)) (ok_events (okSL_head (okSL_tail hok)))

/-! ref16_Same -/

def S_ref16_Same : Spec := sig [.vcpu, .vcpu] [.b] (fun (a, b, _) => decide (a = b))
noncomputable def E_ref16_Same : Env := EB.adds [(28, S_ref05_Same), (18, S_ref16_Events)]

theorem ok_ref16_Same : EnvOk E_ref16_Same := okEB.adds (l := _) ⟨c_ref05_Same, c_ref16_Events, trivial⟩

theorem t_ref16_Same (a : PVcpu) (b : PVcpu) : evF E_ref16_Same 60 13 (encArgs [.vcpu, .vcpu] (a, b, ())) = 
  bif (Bool.and (decide (a.core.regs = b.core.regs)) (Bool.and (BEq.beq a.core.pc b.core.pc) (Bool.and (decide (a.core.csr = b.core.csr)) true))) then
    (bif a.halted then
      (bif b.halted then
        (bif (BEq.beq a.done b.done) then
          (Tree.letv (okO [AT.b]) (decide (a.out = b.out)) fun x0 =>
          (bif x0 then
            (Tree.letv (okO [AT.b]) (decide (a.log = b.log)) fun x1 =>
            (bif x1 then
              (Tree.leaf (SV.b true))
            else
              (Tree.leaf (SV.b false))))
          else
            (Tree.leaf (SV.b false))))
        else
          (Tree.leaf (SV.b false)))
      else
        (Tree.leaf (SV.b false)))
    else
      (bif b.halted then
        (Tree.leaf (SV.b false))
      else
        (bif (BEq.beq a.done b.done) then
          (Tree.letv (okO [AT.b]) (decide (a.out = b.out)) fun x0 =>
          (bif x0 then
            (Tree.letv (okO [AT.b]) (decide (a.log = b.log)) fun x1 =>
            (bif x1 then
              (Tree.leaf (SV.b true))
            else
              (Tree.leaf (SV.b false))))
          else
            (Tree.leaf (SV.b false))))
        else
          (Tree.leaf (SV.b false)))))
  else
    (Tree.leaf (SV.b false)) := by kernel_rfl
theorem a_ref16_Same (a : PVcpu) (b : PVcpu) (ok_a : okVcpu a) (ok_b : okVcpu b) : (evF E_ref16_Same 60 13 (encArgs [.vcpu, .vcpu] (a, b, ()))).ends fun out_ => decO [.b] out_ = some (decide (a = b)) := by
  rw [t_ref16_Same, Tree.ends_holds]
  simp only [Tree.holds_loop, Tree.holds_fork, Tree.holds_next, if_true, Tree.holds_cond, Tree.holds_letv, Tree.holds_leaf, Tree.holds_fail, decO, decA, decTup, decMach, decCore, decTrap, decInstr, decPart, decGuest, decConf, decEvent, decVcpu, decStep, bytesS, boolS, eventsS, intsS, guestsS, vcpusS, rowS, castL, Option.bind_some, Option.map_some, Option.some.injEq, Nat.beq_refl, beq_self_eq_true, Bool.and_self, cond_true, cond_false, eq_self]
  have key : a = b ↔ (a.core.regs = b.core.regs ∧ a.core.pc = b.core.pc ∧ a.core.csr = b.core.csr ∧ a.halted = b.halted ∧ a.done = b.done ∧ a.out = b.out ∧ a.log = b.log) := by
    constructor
    · rintro rfl; simp
    · rintro ⟨h1, h2, h3, h4, h5, h6, h7⟩; exact vcpu_ext (core_ext h1 h2 h3) h6 h4 h5 h7
  simp only [key]
  repeat' (first | refine drop_ok ?_ | intro _ | with_reducible apply And.intro)
  all_goals simp_all
  
theorem c_ref16_Same : SpecOk EB 13 S_ref16_Same := spec_sig ok_ref16_Same (n := 60) fun ⟨a, b, ⟨⟩⟩ h hok => a_ref16_Same a b (ok_vcpu (okSL_head hok)) (ok_vcpu (okSL_head (okSL_tail hok)))

/-! trap_IsSupervisor -/

def S_trap_IsSupervisor : Spec := sig [.core] [.b] (fun (c, _) => K.super c)
noncomputable def E_trap_IsSupervisor : Env := EB.adds []

theorem ok_trap_IsSupervisor : EnvOk E_trap_IsSupervisor := okEB.adds (l := _) trivial

theorem t_trap_IsSupervisor (c : PCore) : evF E_trap_IsSupervisor 60 41 (encArgs [.core] (c, ())) = 
  bif (bne (andI IntKind.u32 (List.getD c.csr 0 (0 : Int)) (1 : Int)) (0 : Int)) then
    (Tree.leaf (SV.b true))
  else
    (Tree.leaf (SV.b false)) := by kernel_rfl
theorem a_trap_IsSupervisor (c : PCore) (ok_c : okCore c) : (evF E_trap_IsSupervisor 60 41 (encArgs [.core] (c, ()))).ends fun out_ => decO [.b] out_ = some (K.super c) := by
  rw [t_trap_IsSupervisor, Tree.ends_holds]
  obtain ⟨s0, s1⟩ := ok_c.csr.u32 (i := 0) (by omega)
  simp only [Tree.holds_loop, Tree.holds_fork, Tree.holds_next, if_true, Tree.holds_cond, Tree.holds_letv, Tree.holds_leaf, Tree.holds_fail, decO, decA, decTup, decMach, decCore, decTrap, decInstr, decPart, decGuest, decConf, decEvent, decVcpu, decStep, bytesS, boolS, eventsS, intsS, guestsS, vcpusS, rowS, castL, Option.bind_some, Option.map_some, Option.some.injEq, Nat.beq_refl, beq_self_eq_true, Bool.and_self, cond_true, cond_false, eq_self, beq_iff_eq, beq_eq_false_iff_ne, bne_iff_ne, bne_eq_false_iff_eq, ne_eq, decide_eq_true_eq, decide_eq_false_iff_not, ble_true, ble_false, inRange_iff, inRange_false, K.super, and_1 s0 s1]
  repeat' (first | refine drop_ok ?_ | intro _ | with_reducible apply And.intro)
  all_goals (simp_all; try omega)
  
theorem c_trap_IsSupervisor : SpecOk EB 41 S_trap_IsSupervisor := spec_sig ok_trap_IsSupervisor (n := 60) fun ⟨c, ⟨⟩⟩ h hok => a_trap_IsSupervisor c (ok_core (okSL_head hok))

/-! emul_CanEmulate -/

def S_emul_CanEmulate : Spec := sig [.vcpu, .trap] [.b] (fun (v, t, _) => K.can v t)
noncomputable def E_emul_CanEmulate : Env := EB_0_1.adds [(33, S_emul_of), (41, S_trap_IsSupervisor)]

theorem ok_emul_CanEmulate : EnvOk E_emul_CanEmulate := okEB_0_1.adds (l := _) ⟨c_emul_of, (up_to_0_1 c_trap_IsSupervisor), trivial⟩

theorem t_emul_CanEmulate (v : PVcpu) (t : PTrap) : evF E_emul_CanEmulate 60 16 (encArgs [.vcpu, .trap] (v, t, ())) = 
  Tree.letv (okO [AT.instr, AT.b]) ((K.decode t.tval).fst, (K.isPriv t.tval)) fun x0 =>
  (bif x0.snd then
    (bif (BEq.beq t.cause (2 : Int)) then
      (Tree.letv (okO [AT.b]) (K.super v.core) fun x1 =>
      (bif x1 then
        (Tree.leaf (SV.b true))
      else
        (Tree.leaf (SV.b false))))
    else
      (Tree.leaf (SV.b false)))
  else
    (Tree.leaf (SV.b false))) := by kernel_rfl
theorem a_emul_CanEmulate (v : PVcpu) (t : PTrap) (ok_v : okVcpu v) (ok_t : okTrap t) : (evF E_emul_CanEmulate 60 16 (encArgs [.vcpu, .trap] (v, t, ()))).ends fun out_ => decO [.b] out_ = some (K.can v t) := by
  rw [t_emul_CanEmulate, Tree.ends_holds]
  simp only [Tree.holds_loop, Tree.holds_fork, Tree.holds_next, if_true, Tree.holds_cond, Tree.holds_letv, Tree.holds_leaf, Tree.holds_fail, decO, decA, decTup, decMach, decCore, decTrap, decInstr, decPart, decGuest, decConf, decEvent, decVcpu, decStep, bytesS, boolS, eventsS, intsS, guestsS, vcpusS, rowS, castL, Option.bind_some, Option.map_some, Option.some.injEq, Nat.beq_refl, beq_self_eq_true, Bool.and_self, cond_true, cond_false, eq_self, beq_iff_eq, beq_eq_false_iff_ne, bne_iff_ne, bne_eq_false_iff_eq, ne_eq, decide_eq_true_eq, decide_eq_false_iff_not, ble_true, ble_false, inRange_iff, inRange_false, K.can]
  repeat' (first | refine drop_ok ?_ | intro _ | with_reducible apply And.intro)
  all_goals simp_all
  
theorem c_emul_CanEmulate : SpecOk EB_0_1 16 S_emul_CanEmulate := spec_sig ok_emul_CanEmulate (n := 60) fun ⟨v, t, ⟨⟩⟩ h hok => a_emul_CanEmulate v t (ok_vcpu (okSL_head hok)) (ok_trap (okSL_head (okSL_tail hok)))

/-! law19_awake -/

def S_law19_awake : Spec := sig [] [.b] (fun _ => true)
noncomputable def E_law19_awake : Env := EB_0_1.adds [(21, S_ref02_Encode), (14, S_emul_Emulate), (13, S_ref16_Same), (16, S_emul_CanEmulate)]

theorem ok_law19_awake : EnvOk E_law19_awake := okEB_0_1.adds (l := _) ⟨(up_to_0_1 c_ref02_Encode), c_emul_Emulate, (up_to_0_1 c_ref16_Same), c_emul_CanEmulate, trivial⟩
theorem t_c_law19_awake : (evF E_law19_awake 60 11 []).inst = .leaf (.b true) := by kernel_rfl
theorem c_law19_awake : SpecOk EB_0_1 11 S_law19_awake := spec_sig ok_law19_awake (n := 60) fun _ _ _ => Tree.of_inst (Q := .of _) (by
  show ((evF E_law19_awake 60 11 []).inst).holds _
  rw [t_c_law19_awake]; exact rfl)


/-! ref16_Few -/

def S_ref16_Few : Spec := sig [.vcpu] [.b] (fun (v, _) => K.vfew v)
noncomputable def E_ref16_Few : Env := EB.adds []

theorem ok_ref16_Few : EnvOk E_ref16_Few := okEB.adds (l := _) trivial

theorem t_ref16_Few (v : PVcpu) : evF E_ref16_Few 60 12 (encArgs [.vcpu] (v, ())) = 
  bif (decide ((Int.ofNat (List.length v.out)) ≤ (600 : Int))) then
    (bif (decide ((Int.ofNat (List.length v.log)) ≤ (600 : Int))) then
      (Tree.leaf (SV.b true))
    else
      (Tree.leaf (SV.b false)))
  else
    (Tree.leaf (SV.b false)) := by kernel_rfl
theorem a_ref16_Few (v : PVcpu) (ok_v : okVcpu v) : (evF E_ref16_Few 60 12 (encArgs [.vcpu] (v, ()))).ends fun out_ => decO [.b] out_ = some (K.vfew v) := by
  rw [t_ref16_Few, Tree.ends_holds]
  simp only [Tree.holds_loop, Tree.holds_fork, Tree.holds_next, if_true, Tree.holds_cond, Tree.holds_letv, Tree.holds_leaf, Tree.holds_fail, decO, decA, decTup, decMach, decCore, decTrap, decInstr, decPart, decGuest, decConf, decEvent, decVcpu, decStep, bytesS, boolS, eventsS, intsS, guestsS, vcpusS, rowS, castL, Option.bind_some, Option.map_some, Option.some.injEq, Nat.beq_refl, beq_self_eq_true, Bool.and_self, cond_true, cond_false, eq_self, beq_iff_eq, beq_eq_false_iff_ne, bne_iff_ne, bne_eq_false_iff_eq, ne_eq, decide_eq_true_eq, decide_eq_false_iff_not, ble_true, ble_false, inRange_iff, inRange_false]
  repeat' (first | refine drop_ok ?_ | intro _ | with_reducible apply And.intro)
  all_goals (first | omega | (simp_all [K.vfew]; done) | (simp_all [K.vfew] <;> omega) | simp_all [K.vfew])
  
theorem c_ref16_Few : SpecOk EB 12 S_ref16_Few := spec_sig ok_ref16_Few (n := 60) fun ⟨v, ⟨⟩⟩ h hok => a_ref16_Few v (ok_vcpu (okSL_head hok))

/-! ref02_Privileged -/

def S_ref02_Privileged : Spec := sig [.i .i64] [.b] (fun (op, _) => K.privd op)
noncomputable def E_ref02_Privileged : Env := EB.adds []

theorem ok_ref02_Privileged : EnvOk E_ref02_Privileged := okEB.adds (l := _) trivial

theorem t_ref02_Privileged (op : Int) : evF E_ref02_Privileged 60 20 (encArgs [.i .i64] (op, ())) = 
  bif (BEq.beq op (21 : Int)) then
    (Tree.leaf (SV.b true))
  else
    (bif (BEq.beq op (22 : Int)) then
      (Tree.leaf (SV.b true))
    else
      (bif (BEq.beq op (23 : Int)) then
        (Tree.leaf (SV.b true))
      else
        (bif (BEq.beq op (24 : Int)) then
          (Tree.leaf (SV.b true))
        else
          (bif (BEq.beq op (25 : Int)) then
            (Tree.leaf (SV.b true))
          else
            (Tree.leaf (SV.b false)))))) := by kernel_rfl
theorem a_ref02_Privileged (op : Int) (ok_op : okI .i64 op) : (evF E_ref02_Privileged 60 20 (encArgs [.i .i64] (op, ()))).ends fun out_ => decO [.b] out_ = some (K.privd op) := by
  rw [t_ref02_Privileged, Tree.ends_holds]
  simp only [Tree.holds_loop, Tree.holds_fork, Tree.holds_next, if_true, Tree.holds_cond, Tree.holds_letv, Tree.holds_leaf, Tree.holds_fail, decO, decA, decTup, decMach, decCore, decTrap, decInstr, decPart, decGuest, decConf, decEvent, decVcpu, decStep, bytesS, boolS, eventsS, intsS, guestsS, vcpusS, rowS, castL, Option.bind_some, Option.map_some, Option.some.injEq, Nat.beq_refl, beq_self_eq_true, Bool.and_self, cond_true, cond_false, eq_self, beq_iff_eq, beq_eq_false_iff_ne, bne_iff_ne, bne_eq_false_iff_eq, ne_eq, decide_eq_true_eq, decide_eq_false_iff_not, ble_true, ble_false, inRange_iff, inRange_false, K.privd]
  repeat' (first | refine drop_ok ?_ | intro _ | with_reducible apply And.intro)
  all_goals first | (subst_vars; rfl) | (have : ¬ (21 ≤ op ∧ op ≤ 25) := by omega
                                         by_cases h : 21 ≤ op <;> simp <;> omega)
  
theorem c_ref02_Privileged : SpecOk EB 20 S_ref02_Privileged := spec_sig ok_ref02_Privileged (n := 60) fun ⟨op, ⟨⟩⟩ h hok => a_ref02_Privileged op (ok_int (okSL_head hok))

/-! ref05_There -/

def S_ref05_There : Spec := sig [.i .i64, .i .u32, .i .i64] [.b] (fun (size, a, n, _) => K.inR size a n) (pre := fun (size, a, n, _) => decide (0 ≤ n ∧ n ≤ 1099511627776 ∧ 0 ≤ size))
noncomputable def E_ref05_There : Env := EB.adds []

theorem ok_ref05_There : EnvOk E_ref05_There := okEB.adds (l := _) trivial

theorem t_ref05_There (size : Int) (a : Int) (n : Int) : evF E_ref05_There 60 49 (encArgs [.i .i64, .i .u32, .i .i64] (size, a, n, ())) = 
  bif (decide ((IntKind.wrap IntKind.i64 a) ≤ (IntKind.wrap IntKind.i64 (size - n)))) then
    (Tree.leaf (SV.b true))
  else
    (Tree.leaf (SV.b false)) := by kernel_rfl
theorem a_ref05_There (size : Int) (a : Int) (n : Int) (hpre : 0 ≤ n ∧ n ≤ 1099511627776 ∧ 0 ≤ size) (ok_size : okI .i64 size) (ok_a : okI .u32 a) (ok_n : okI .i64 n) : (evF E_ref05_There 60 49 (encArgs [.i .i64, .i .u32, .i .i64] (size, a, n, ()))).ends fun out_ => decO [.b] out_ = some (K.inR size a n) := by
  rw [t_ref05_There, Tree.ends_holds]
  obtain ⟨a0, a1⟩ := okI_u32 ok_a
  obtain ⟨s0, s1⟩ := okI_i64 ok_size
  have e1 : IntKind.i64.wrap a = a := wrapI64 (by omega) (by omega)
  have e2 : IntKind.i64.wrap (size - n) = size - n := wrapI64 (by omega) (by omega)
  simp only [Tree.holds_loop, Tree.holds_fork, Tree.holds_next, if_true, Tree.holds_cond, Tree.holds_letv, Tree.holds_leaf, Tree.holds_fail, decO, decA, decTup, decMach, decCore, decTrap, decInstr, decPart, decGuest, decConf, decEvent, decVcpu, decStep, bytesS, boolS, eventsS, intsS, guestsS, vcpusS, rowS, castL, Option.bind_some, Option.map_some, Option.some.injEq, Nat.beq_refl, beq_self_eq_true, Bool.and_self, cond_true, cond_false, eq_self, beq_iff_eq, beq_eq_false_iff_ne, bne_iff_ne, bne_eq_false_iff_eq, ne_eq, decide_eq_true_eq, decide_eq_false_iff_not, ble_true, ble_false, inRange_iff, inRange_false, K.inR, e1, e2]
  repeat' (first | refine drop_ok ?_ | intro _ | with_reducible apply And.intro)
  all_goals (simp; omega)
  
theorem c_ref05_There : SpecOk EB 49 S_ref05_There := spec_sig ok_ref05_There (n := 60) fun ⟨size, a, n, ⟨⟩⟩ h hok => a_ref05_There size a n (of_decide_eq_true h) (ok_int (okSL_head hok)) (ok_int (okSL_head (okSL_tail hok))) (ok_int (okSL_head (okSL_tail (okSL_tail hok))))

/-! ref05_Store -/

def S_ref05_Store : Spec := sig [.rd .u8, .i .u32, .i .i64, .i .u32] [.rd .u8, .b] (fun (m, a, n, v, _) => if K.inR m.length a n = true then (K.st m a n v, true) else (m, false)) (pre := fun (m, a, n, v, _) => decide ((n = 1 ∨ n = 4) ∧ m.length ≤ 1099511627776))
noncomputable def E_ref05_Store : Env := EB.adds [(49, S_ref05_There)]

theorem ok_ref05_Store : EnvOk E_ref05_Store := okEB.adds (l := _) ⟨c_ref05_There, trivial⟩
theorem t1_c_ref05_Store (m : List Int) (a v : Int) : evF E_ref05_Store 60 31 [.rd .u8 m, .v (.int .u32 a), .v (.int .i64 1), .v (.int .u32 v)] = 
  bif (decide (And ((0 : Int) ≤ (1 : Int)) (And ((1 : Int) ≤ (1099511627776 : Int)) ((0 : Int) ≤ (Int.ofNat (List.length m)))))) then
    (Tree.letv (okO [AT.b]) (K.inR (Int.ofNat (List.length m)) a (1 : Int)) fun x0 =>
    (bif x0 then
      (bif (Bool.or (Bool.not (Nat.beq (List.length m) 0)) true) then
        (bif (Nat.ble ((0 + (List.length m)) * 1) 140737488355328) then
          (bif (inRange (IntKind.wrap IntKind.i64 ((IntKind.wrap IntKind.i64 a) + (0 : Int))) (List.length m)) then
            (Tree.leaf (SV.tup [(SV.rd ETy.u8 (List.set m (Int.toNat (IntKind.wrap IntKind.i64 ((IntKind.wrap IntKind.i64 a) + (0 : Int)))) (IntKind.wrap IntKind.u8 (Int.tmod v (256 : Int))))), (SV.b true)]))
          else
            (Tree.fail))
        else
          (Tree.fail))
      else
        (Tree.fail))
    else
      (Tree.leaf (SV.tup [(SV.rd ETy.u8 m), (SV.b false)]))))
  else
    (Tree.fail) := by kernel_rfl
theorem t4_c_ref05_Store (m : List Int) (a v : Int) : evF E_ref05_Store 60 31 [.rd .u8 m, .v (.int .u32 a), .v (.int .i64 4), .v (.int .u32 v)] = 
  bif (decide (And ((0 : Int) ≤ (4 : Int)) (And ((4 : Int) ≤ (1099511627776 : Int)) ((0 : Int) ≤ (Int.ofNat (List.length m)))))) then
    (Tree.letv (okO [AT.b]) (K.inR (Int.ofNat (List.length m)) a (4 : Int)) fun x0 =>
    (bif x0 then
      (bif (Bool.or (Bool.not (Nat.beq (List.length m) 0)) true) then
        (bif (Nat.ble ((0 + (List.length m)) * 1) 140737488355328) then
          (bif (inRange (IntKind.wrap IntKind.i64 ((IntKind.wrap IntKind.i64 a) + (0 : Int))) (List.length m)) then
            (bif (inRange (IntKind.wrap IntKind.i64 ((IntKind.wrap IntKind.i64 a) + (1 : Int))) (List.length (List.set m (Int.toNat (IntKind.wrap IntKind.i64 ((IntKind.wrap IntKind.i64 a) + (0 : Int)))) (IntKind.wrap IntKind.u8 (Int.tmod v (256 : Int)))))) then
              (bif (inRange (IntKind.wrap IntKind.i64 ((IntKind.wrap IntKind.i64 a) + (2 : Int))) (List.length (List.set (List.set m (Int.toNat (IntKind.wrap IntKind.i64 ((IntKind.wrap IntKind.i64 a) + (0 : Int)))) (IntKind.wrap IntKind.u8 (Int.tmod v (256 : Int)))) (Int.toNat (IntKind.wrap IntKind.i64 ((IntKind.wrap IntKind.i64 a) + (1 : Int)))) (IntKind.wrap IntKind.u8 (Int.tmod (IntKind.wrap IntKind.u32 (Int.tdiv v (256 : Int))) (256 : Int)))))) then
                (bif (inRange (IntKind.wrap IntKind.i64 ((IntKind.wrap IntKind.i64 a) + (3 : Int))) (List.length (List.set (List.set (List.set m (Int.toNat (IntKind.wrap IntKind.i64 ((IntKind.wrap IntKind.i64 a) + (0 : Int)))) (IntKind.wrap IntKind.u8 (Int.tmod v (256 : Int)))) (Int.toNat (IntKind.wrap IntKind.i64 ((IntKind.wrap IntKind.i64 a) + (1 : Int)))) (IntKind.wrap IntKind.u8 (Int.tmod (IntKind.wrap IntKind.u32 (Int.tdiv v (256 : Int))) (256 : Int)))) (Int.toNat (IntKind.wrap IntKind.i64 ((IntKind.wrap IntKind.i64 a) + (2 : Int)))) (IntKind.wrap IntKind.u8 (Int.tmod (IntKind.wrap IntKind.u32 (Int.tdiv (IntKind.wrap IntKind.u32 (Int.tdiv v (256 : Int))) (256 : Int))) (256 : Int)))))) then
                  (Tree.leaf (SV.tup [(SV.rd ETy.u8 (List.set (List.set (List.set (List.set m (Int.toNat (IntKind.wrap IntKind.i64 ((IntKind.wrap IntKind.i64 a) + (0 : Int)))) (IntKind.wrap IntKind.u8 (Int.tmod v (256 : Int)))) (Int.toNat (IntKind.wrap IntKind.i64 ((IntKind.wrap IntKind.i64 a) + (1 : Int)))) (IntKind.wrap IntKind.u8 (Int.tmod (IntKind.wrap IntKind.u32 (Int.tdiv v (256 : Int))) (256 : Int)))) (Int.toNat (IntKind.wrap IntKind.i64 ((IntKind.wrap IntKind.i64 a) + (2 : Int)))) (IntKind.wrap IntKind.u8 (Int.tmod (IntKind.wrap IntKind.u32 (Int.tdiv (IntKind.wrap IntKind.u32 (Int.tdiv v (256 : Int))) (256 : Int))) (256 : Int)))) (Int.toNat (IntKind.wrap IntKind.i64 ((IntKind.wrap IntKind.i64 a) + (3 : Int)))) (IntKind.wrap IntKind.u8 (Int.tmod (IntKind.wrap IntKind.u32 (Int.tdiv (IntKind.wrap IntKind.u32 (Int.tdiv (IntKind.wrap IntKind.u32 (Int.tdiv v (256 : Int))) (256 : Int))) (256 : Int))) (256 : Int))))), (SV.b true)]))
                else
                  (Tree.fail))
              else
                (Tree.fail))
            else
              (Tree.fail))
          else
            (Tree.fail))
        else
          (Tree.fail))
      else
        (Tree.fail))
    else
      (Tree.leaf (SV.tup [(SV.rd ETy.u8 m), (SV.b false)]))))
  else
    (Tree.fail) := by kernel_rfl
theorem a1_c_ref05_Store (m : List Int) (a v : Int) (hm : m.length ≤ 1099511627776) (ok_m : okBytes m) (ok_a : okI .u32 a) (ok_v : okI .u32 v) : (evF E_ref05_Store 60 31 [.rd .u8 m, .v (.int .u32 a), .v (.int .i64 1), .v (.int .u32 v)]).ends fun out_ => decO [.rd .u8, .b] out_ = some (if K.inR m.length a 1 = true then (K.st m a 1 v, true) else (m, false)) := by
  rw [t1_c_ref05_Store, Tree.ends_holds]
  obtain ⟨a0, a1⟩ := okI_u32 ok_a
  obtain ⟨v0, v1⟩ := okI_u32 ok_v
  have ew : IntKind.i64.wrap a = a := wrapI64 (by omega) (by omega)
  have i0 : IntKind.i64.wrap (a + 0) = a := by rw [wrapI64 (by omega) (by omega)]; omega
  have hr : K.inR m.length a 1 = true ↔ a + 1 ≤ (m.length : Int) := by simp [K.inR]
  have d0 : Int.tmod v 256 = v % 256 := Int.tmod_eq_emod_of_nonneg v0
  have d1 : v % 256 % 256 = v % 256 := by omega
  simp only [Tree.holds_loop, Tree.holds_fork, Tree.holds_next, if_true, Tree.holds_cond, Tree.holds_letv, Tree.holds_leaf, Tree.holds_fail, decO, decA, decTup, decMach, decCore, decTrap, decInstr, decPart, decGuest, decConf, decEvent, decVcpu, decStep, bytesS, boolS, eventsS, intsS, guestsS, vcpusS, rowS, castL, Option.bind_some, Option.map_some, Option.some.injEq, Nat.beq_refl, beq_self_eq_true, Bool.and_self, cond_true, cond_false, eq_self, beq_iff_eq, beq_eq_false_iff_ne, bne_iff_ne, bne_eq_false_iff_eq, ne_eq, decide_eq_true_eq, decide_eq_false_iff_not, ble_true, ble_false, inRange_iff, inRange_false, Int.ofNat_eq_natCast, ew, i0, wrap8, d0, d1]
  repeat' (first | refine drop_ok ?_ | intro _ | with_reducible apply And.intro)
  all_goals first | (rw [if_pos (by assumption)]; rfl) | (rw [if_neg (by simp_all)]; done) | omega | (exfalso; have := hr.1 (by assumption); omega) | (rename_i z; simp at z; done) | trace_state
theorem a4_c_ref05_Store (m : List Int) (a v : Int) (hm : m.length ≤ 1099511627776) (ok_m : okBytes m) (ok_a : okI .u32 a) (ok_v : okI .u32 v) : (evF E_ref05_Store 60 31 [.rd .u8 m, .v (.int .u32 a), .v (.int .i64 4), .v (.int .u32 v)]).ends fun out_ => decO [.rd .u8, .b] out_ = some (if K.inR m.length a 4 = true then (K.st m a 4 v, true) else (m, false)) := by
  rw [t4_c_ref05_Store, Tree.ends_holds]
  obtain ⟨a0, a1⟩ := okI_u32 ok_a
  obtain ⟨v0, v1⟩ := okI_u32 ok_v
  have ew : IntKind.i64.wrap a = a := wrapI64 (by omega) (by omega)
  have i0 : IntKind.i64.wrap (a + 0) = a := by rw [wrapI64 (by omega) (by omega)]; omega
  have i1 : IntKind.i64.wrap (a + 1) = a + 1 := wrapI64 (by omega) (by omega)
  have i2 : IntKind.i64.wrap (a + 2) = a + 2 := wrapI64 (by omega) (by omega)
  have i3 : IntKind.i64.wrap (a + 3) = a + 3 := wrapI64 (by omega) (by omega)
  have n1 : (a + 1).toNat = a.toNat + 1 := by omega
  have n2 : (a + 2).toNat = a.toNat + 2 := by omega
  have n3 : (a + 3).toNat = a.toNat + 3 := by omega
  have hr : K.inR m.length a 4 = true ↔ a + 4 ≤ (m.length : Int) := by simp [K.inR]
  have q1 : IntKind.u32.wrap (Int.tdiv v 256) = v / 256 := by rw [Int.tdiv_eq_ediv_of_nonneg v0, wrap32]; omega
  have q2 : IntKind.u32.wrap (Int.tdiv (v / 256) 256) = v / 65536 := by rw [Int.tdiv_eq_ediv_of_nonneg (by omega), wrap32]; omega
  have q3 : IntKind.u32.wrap (Int.tdiv (v / 65536) 256) = v / 16777216 := by rw [Int.tdiv_eq_ediv_of_nonneg (by omega), wrap32]; omega
  have d0 : Int.tmod v 256 % 256 = v % 256 := by rw [Int.tmod_eq_emod_of_nonneg v0]; omega
  have d1 : Int.tmod (v / 256) 256 % 256 = v / 256 % 256 := by rw [Int.tmod_eq_emod_of_nonneg (by omega)]; omega
  have d2 : Int.tmod (v / 65536) 256 % 256 = v / 65536 % 256 := by rw [Int.tmod_eq_emod_of_nonneg (by omega)]; omega
  have d3 : Int.tmod (v / 16777216) 256 % 256 = v / 16777216 % 256 := by rw [Int.tmod_eq_emod_of_nonneg (by omega)]; omega
  simp only [Tree.holds_loop, Tree.holds_fork, Tree.holds_next, if_true, Tree.holds_cond, Tree.holds_letv, Tree.holds_leaf, Tree.holds_fail, decO, decA, decTup, decMach, decCore, decTrap, decInstr, decPart, decGuest, decConf, decEvent, decVcpu, decStep, bytesS, boolS, eventsS, intsS, guestsS, vcpusS, rowS, castL, Option.bind_some, Option.map_some, Option.some.injEq, Nat.beq_refl, beq_self_eq_true, Bool.and_self, cond_true, cond_false, eq_self, beq_iff_eq, beq_eq_false_iff_ne, bne_iff_ne, bne_eq_false_iff_eq, ne_eq, decide_eq_true_eq, decide_eq_false_iff_not, ble_true, ble_false, inRange_iff, inRange_false, Int.ofNat_eq_natCast, ew, i0, i1, i2, i3, n1, n2, n3, wrap8, q1, q2, q3, d0, d1, d2, d3, List.length_set]
  repeat' (first | refine drop_ok ?_ | intro _ | with_reducible apply And.intro)
  all_goals first | (rw [if_pos (by assumption)]; rfl) | (rw [if_neg (by simp_all)]; done) | omega | (exfalso; have := hr.1 (by assumption); omega) | (rename_i z; simp at z; done) | trace_state
theorem c_ref05_Store : SpecOk EB 31 S_ref05_Store := spec_sig ok_ref05_Store (n := 60) fun ⟨m, a, n, v, ⟨⟩⟩ h hok => by
  have h := of_decide_eq_true h
  have o1 := ok_bytes (okSL_head hok)
  have o2 := ok_int (okSL_head (okSL_tail hok))
  have o3 := ok_int (okSL_head (okSL_tail (okSL_tail (okSL_tail hok))))
  rcases h with ⟨h | h, hm⟩
  · have h : n = 1 := h
    subst h; exact a1_c_ref05_Store m a v hm o1 o2 o3
  · have h : n = 4 := h
    subst h; exact a4_c_ref05_Store m a v hm o1 o2 o3


/-! trap_InterruptsEnabled -/

def S_trap_InterruptsEnabled : Spec := sig [.core] [.b] (fun (c, _) => K.ie c)
noncomputable def E_trap_InterruptsEnabled : Env := EB.adds []

theorem ok_trap_InterruptsEnabled : EnvOk E_trap_InterruptsEnabled := okEB.adds (l := _) trivial

theorem t_trap_InterruptsEnabled (c : PCore) : evF E_trap_InterruptsEnabled 60 79 (encArgs [.core] (c, ())) = 
  bif (bne (andI IntKind.u32 (List.getD c.csr 0 (0 : Int)) (2 : Int)) (0 : Int)) then
    (Tree.leaf (SV.b true))
  else
    (Tree.leaf (SV.b false)) := by kernel_rfl
theorem a_trap_InterruptsEnabled (c : PCore) (ok_c : okCore c) : (evF E_trap_InterruptsEnabled 60 79 (encArgs [.core] (c, ()))).ends fun out_ => decO [.b] out_ = some (K.ie c) := by
  rw [t_trap_InterruptsEnabled, Tree.ends_holds]
  obtain ⟨s0, s1⟩ := ok_c.csr.u32 (i := 0) (by omega)
  simp only [Tree.holds_loop, Tree.holds_fork, Tree.holds_next, if_true, Tree.holds_cond, Tree.holds_letv, Tree.holds_leaf, Tree.holds_fail, decO, decA, decTup, decMach, decCore, decTrap, decInstr, decPart, decGuest, decConf, decEvent, decVcpu, decStep, bytesS, boolS, eventsS, intsS, guestsS, vcpusS, rowS, castL, Option.bind_some, Option.map_some, Option.some.injEq, Nat.beq_refl, beq_self_eq_true, Bool.and_self, cond_true, cond_false, eq_self, beq_iff_eq, beq_eq_false_iff_ne, bne_iff_ne, bne_eq_false_iff_eq, ne_eq, decide_eq_true_eq, decide_eq_false_iff_not, ble_true, ble_false, inRange_iff, inRange_false, K.ie, and_2 s0 s1]
  repeat' (first | refine drop_ok ?_ | intro _ | with_reducible apply And.intro)
  all_goals (simp_all; try omega)
  
theorem c_trap_InterruptsEnabled : SpecOk EB 79 S_trap_InterruptsEnabled := spec_sig ok_trap_InterruptsEnabled (n := 60) fun ⟨c, ⟨⟩⟩ h hok => a_trap_InterruptsEnabled c (ok_core (okSL_head hok))

/-! csr_TimerCompare -/

def S_csr_TimerCompare : Spec := sig [.a .u32 12] [.i .u64] (fun (c, _) => K.cmp c)
noncomputable def E_csr_TimerCompare : Env := EB.adds []

theorem ok_csr_TimerCompare : EnvOk E_csr_TimerCompare := okEB.adds (l := _) trivial

theorem t_csr_TimerCompare (c : List Int) : evF E_csr_TimerCompare 60 80 (encArgs [.a .u32 12] (c, ())) = 
  Tree.leaf (SV.v (Value.int IntKind.u64 (orI IntKind.u64 (IntKind.wrap IntKind.u64 ((IntKind.wrap IntKind.u64 (List.getD c 10 (0 : Int))) * (4294967296 : Int))) (IntKind.wrap IntKind.u64 (List.getD c 9 (0 : Int)))))) := by kernel_rfl
theorem a_csr_TimerCompare (c : List Int) (ok_c : okL .u32 12 c) : (evF E_csr_TimerCompare 60 80 (encArgs [.a .u32 12] (c, ()))).ends fun out_ => decO [.i .u64] out_ = some (K.cmp c) := by
  rw [t_csr_TimerCompare, Tree.ends_holds]
  obtain ⟨a0, a1⟩ := ok_c.u32 (i := 9) (by omega)
  obtain ⟨b0, b1⟩ := ok_c.u32 (i := 10) (by omega)
  simp only [Tree.holds_loop, Tree.holds_fork, Tree.holds_next, if_true, Tree.holds_cond, Tree.holds_letv, Tree.holds_leaf, Tree.holds_fail, decO, decA, decTup, decMach, decCore, decTrap, decInstr, decPart, decGuest, decConf, decEvent, decVcpu, decStep, bytesS, boolS, eventsS, intsS, guestsS, vcpusS, rowS, castL, Option.bind_some, Option.map_some, Option.some.injEq, Nat.beq_refl, beq_self_eq_true, Bool.and_self, cond_true, cond_false, eq_self, K.cmp]
  generalize c.getD 9 0 = a at *
  generalize c.getD 10 0 = b at *
  rw [show IntKind.u64.wrap (IntKind.u64.wrap b * 4294967296) = b * 4294967296 by rw [wrap64, wrap64]; omega, show IntKind.u64.wrap a = a by rw [wrap64]; omega]
  obtain ⟨x, rfl⟩ := Int.eq_ofNat_of_zero_le a0
  obtain ⟨y, rfl⟩ := Int.eq_ofNat_of_zero_le b0
  have e : (y : Int) * 4294967296 = ((2 ^ 32 * y : Nat) : Int) := by rw [Int.natCast_mul, Int.mul_comm]; rfl
  rw [e, or64_nat (by omega) (by omega)]
  have := Nat.two_pow_add_eq_or_of_lt (show x < 2 ^ 32 by omega) y
  rw [← this]; rfl
  
theorem c_csr_TimerCompare : SpecOk EB 80 S_csr_TimerCompare := spec_sig ok_csr_TimerCompare (n := 60) fun ⟨c, ⟨⟩⟩ h hok => a_csr_TimerCompare c (ok_arr (okSL_head hok))

/-! fetch_TimerPending -/

def S_fetch_TimerPending : Spec := sig [.mach] [.b] (fun (m, _) => K.due m)
noncomputable def E_fetch_TimerPending : Env := EB.adds [(79, S_trap_InterruptsEnabled), (80, S_csr_TimerCompare)]

theorem ok_fetch_TimerPending : EnvOk E_fetch_TimerPending := okEB.adds (l := _) ⟨c_trap_InterruptsEnabled, c_csr_TimerCompare, trivial⟩

theorem t_fetch_TimerPending (m : PMach) : evF E_fetch_TimerPending 60 50 (encArgs [.mach] (m, ())) = 
  Tree.letv (okO [AT.b]) (K.ie m.core) fun x0 =>
  (bif x0 then
    (Tree.letv (okO [(AT.i IntKind.u64)]) (K.cmp m.core.csr) fun x1 =>
    (bif (decide (m.time ≥ x1)) then
      (Tree.leaf (SV.b true))
    else
      (Tree.leaf (SV.b false))))
  else
    (Tree.leaf (SV.b false))) := by kernel_rfl
theorem a_fetch_TimerPending (m : PMach) (ok_m : okMach m) : (evF E_fetch_TimerPending 60 50 (encArgs [.mach] (m, ()))).ends fun out_ => decO [.b] out_ = some (K.due m) := by
  rw [t_fetch_TimerPending, Tree.ends_holds]
  simp only [Tree.holds_loop, Tree.holds_fork, Tree.holds_next, if_true, Tree.holds_cond, Tree.holds_letv, Tree.holds_leaf, Tree.holds_fail, decO, decA, decTup, decMach, decCore, decTrap, decInstr, decPart, decGuest, decConf, decEvent, decVcpu, decStep, bytesS, boolS, eventsS, intsS, guestsS, vcpusS, rowS, castL, Option.bind_some, Option.map_some, Option.some.injEq, Nat.beq_refl, beq_self_eq_true, Bool.and_self, cond_true, cond_false, eq_self, beq_iff_eq, beq_eq_false_iff_ne, bne_iff_ne, bne_eq_false_iff_eq, ne_eq, decide_eq_true_eq, decide_eq_false_iff_not, ble_true, ble_false, inRange_iff, inRange_false, K.due]
  repeat' (first | refine drop_ok ?_ | intro _ | with_reducible apply And.intro)
  all_goals simp_all
  
theorem c_fetch_TimerPending : SpecOk EB 50 S_fetch_TimerPending := spec_sig ok_fetch_TimerPending (n := 60) fun ⟨m, ⟨⟩⟩ h hok => a_fetch_TimerPending m (ok_mach (okSL_head hok))

/-! trap_Enter -/

def S_trap_Enter : Spec := sig [.core, .trap] [.core] (fun (c, t, _) => K.enter c t)
noncomputable def E_trap_Enter : Env := EB.adds []

theorem ok_trap_Enter : EnvOk E_trap_Enter := okEB.adds (l := _) trivial

theorem t_trap_Enter (c : PCore) (t : PTrap) : evF E_trap_Enter 60 77 (encArgs [.core, .trap] (c, t, ())) = 
  bif (BEq.beq t.cause (0 : Int)) then
    (Tree.leaf (SV.agg [(SV.arr IntKind.u32 16 c.regs), (SV.v (Value.int IntKind.u32 c.pc)), (SV.arr IntKind.u32 12 c.csr)]))
  else
    (bif (bne (andI IntKind.u32 (List.getD (List.set (List.set (List.set c.csr 1 c.pc) 2 (IntKind.wrap IntKind.u32 t.cause)) 3 t.tval) 0 (0 : Int)) (1 : Int)) (0 : Int)) then
      (bif (bne (andI IntKind.u32 (List.getD (List.set (List.set (List.set c.csr 1 c.pc) 2 (IntKind.wrap IntKind.u32 t.cause)) 3 t.tval) 0 (0 : Int)) (2 : Int)) (0 : Int)) then
        (Tree.leaf (SV.agg [(SV.arr IntKind.u32 16 c.regs), (SV.v (Value.int IntKind.u32 (List.getD (List.set (List.set (List.set c.csr 1 c.pc) 2 (IntKind.wrap IntKind.u32 t.cause)) 3 t.tval) 4 (0 : Int)))), (SV.arr IntKind.u32 12 (List.set (List.set (List.set (List.set c.csr 1 c.pc) 2 (IntKind.wrap IntKind.u32 t.cause)) 3 t.tval) 0 (andNotI IntKind.u32 (orI IntKind.u32 (orI IntKind.u32 (orI IntKind.u32 (List.getD (List.set (List.set (List.set c.csr 1 c.pc) 2 (IntKind.wrap IntKind.u32 t.cause)) 3 t.tval) 0 (0 : Int)) (4 : Int)) (8 : Int)) (1 : Int)) (2 : Int))))]))
      else
        (Tree.leaf (SV.agg [(SV.arr IntKind.u32 16 c.regs), (SV.v (Value.int IntKind.u32 (List.getD (List.set (List.set (List.set c.csr 1 c.pc) 2 (IntKind.wrap IntKind.u32 t.cause)) 3 t.tval) 4 (0 : Int)))), (SV.arr IntKind.u32 12 (List.set (List.set (List.set (List.set c.csr 1 c.pc) 2 (IntKind.wrap IntKind.u32 t.cause)) 3 t.tval) 0 (andNotI IntKind.u32 (orI IntKind.u32 (andNotI IntKind.u32 (orI IntKind.u32 (List.getD (List.set (List.set (List.set c.csr 1 c.pc) 2 (IntKind.wrap IntKind.u32 t.cause)) 3 t.tval) 0 (0 : Int)) (4 : Int)) (8 : Int)) (1 : Int)) (2 : Int))))])))
    else
      (bif (bne (andI IntKind.u32 (List.getD (List.set (List.set (List.set c.csr 1 c.pc) 2 (IntKind.wrap IntKind.u32 t.cause)) 3 t.tval) 0 (0 : Int)) (2 : Int)) (0 : Int)) then
        (Tree.leaf (SV.agg [(SV.arr IntKind.u32 16 c.regs), (SV.v (Value.int IntKind.u32 (List.getD (List.set (List.set (List.set c.csr 1 c.pc) 2 (IntKind.wrap IntKind.u32 t.cause)) 3 t.tval) 4 (0 : Int)))), (SV.arr IntKind.u32 12 (List.set (List.set (List.set (List.set c.csr 1 c.pc) 2 (IntKind.wrap IntKind.u32 t.cause)) 3 t.tval) 0 (andNotI IntKind.u32 (orI IntKind.u32 (orI IntKind.u32 (andNotI IntKind.u32 (List.getD (List.set (List.set (List.set c.csr 1 c.pc) 2 (IntKind.wrap IntKind.u32 t.cause)) 3 t.tval) 0 (0 : Int)) (4 : Int)) (8 : Int)) (1 : Int)) (2 : Int))))]))
      else
        (Tree.leaf (SV.agg [(SV.arr IntKind.u32 16 c.regs), (SV.v (Value.int IntKind.u32 (List.getD (List.set (List.set (List.set c.csr 1 c.pc) 2 (IntKind.wrap IntKind.u32 t.cause)) 3 t.tval) 4 (0 : Int)))), (SV.arr IntKind.u32 12 (List.set (List.set (List.set (List.set c.csr 1 c.pc) 2 (IntKind.wrap IntKind.u32 t.cause)) 3 t.tval) 0 (andNotI IntKind.u32 (orI IntKind.u32 (andNotI IntKind.u32 (andNotI IntKind.u32 (List.getD (List.set (List.set (List.set c.csr 1 c.pc) 2 (IntKind.wrap IntKind.u32 t.cause)) 3 t.tval) 0 (0 : Int)) (4 : Int)) (8 : Int)) (1 : Int)) (2 : Int))))])))) := by kernel_rfl
theorem a_trap_Enter (c : PCore) (t : PTrap) (ok_c : okCore c) (ok_t : okTrap t) : (evF E_trap_Enter 60 77 (encArgs [.core, .trap] (c, t, ()))).ends fun out_ => decO [.core] out_ = some (K.enter c t) := by
  rw [t_trap_Enter, Tree.ends_holds]
  obtain ⟨s0, s1⟩ := ok_c.csr.u32 (i := 0) (by omega)
  obtain ⟨a0, a1, a2, a3, a4, a5, a6, a7, a8, a9, a10, a11, hc⟩ := list12 ok_c.csr.1
  have hs : c.csr.getD 0 0 = a0 := by rw [hc]; rfl
  rw [hs] at s0 s1
  simp only [Tree.holds_loop, Tree.holds_fork, Tree.holds_next, if_true, Tree.holds_cond, Tree.holds_letv, Tree.holds_leaf, Tree.holds_fail, decO, decA, decTup, decMach, decCore, decTrap, decInstr, decPart, decGuest, decConf, decEvent, decVcpu, decStep, bytesS, boolS, eventsS, intsS, guestsS, vcpusS, rowS, castL, Option.bind_some, Option.map_some, Option.some.injEq, Nat.beq_refl, beq_self_eq_true, Bool.and_self, cond_true, cond_false, eq_self, beq_iff_eq, beq_eq_false_iff_ne, bne_iff_ne, bne_eq_false_iff_eq, ne_eq, decide_eq_true_eq, decide_eq_false_iff_not, ble_true, ble_false, inRange_iff, inRange_false, K.enter, hc, wrap32]
  simp only [List.set_cons_zero, List.set_cons_succ, List.getD_cons_zero, List.getD_cons_succ]
  simp only [and_1 s0 s1, and_2 s0 s1]
  refine ⟨fun h => ?_, fun h => ?_⟩
  · rw [if_pos h, ← hc]
  rw [if_neg h]
  unfold K.enterS
  repeat' (first | refine drop_ok ?_ | intro _ | with_reducible apply And.intro)
  all_goals
    simp only [PCore.mk.injEq, List.cons.injEq, and_true, true_and]
    show @Eq Int _ _
    first
      | (rw [or_4 s0 s1, or_8 (by omega) (by omega), or_1 (by omega) (by omega), andNot_2 (by omega) (by omega)]; omega)
      | (rw [or_4 s0 s1, andNot_8 (by omega) (by omega), or_1 (by omega) (by omega), andNot_2 (by omega) (by omega)]; omega)
      | (rw [andNot_4 s0 s1, or_8 (by omega) (by omega), or_1 (by omega) (by omega), andNot_2 (by omega) (by omega)]; omega)
      | (rw [andNot_4 s0 s1, andNot_8 (by omega) (by omega), or_1 (by omega) (by omega), andNot_2 (by omega) (by omega)]; omega)
  
theorem c_trap_Enter : SpecOk EB 77 S_trap_Enter := spec_sig ok_trap_Enter (n := 60) fun ⟨c, t, ⟨⟩⟩ h hok => a_trap_Enter c t (ok_core (okSL_head hok)) (ok_trap (okSL_head (okSL_tail hok)))

/-! step_end -/

def S_step_end : Spec := sig [.mach, .trap] [.mach, .trap] (fun (m, t, _) => K.endS m t)
noncomputable def E_step_end : Env := EB.adds [(77, S_trap_Enter)]

theorem ok_step_end : EnvOk E_step_end := okEB.adds (l := _) ⟨c_trap_Enter, trivial⟩

theorem t_step_end (m : PMach) (t : PTrap) : evF E_step_end 60 51 (encArgs [.mach, .trap] (m, t, ())) = 
  Tree.letv (okO [AT.core]) (K.enter m.core t) fun x0 =>
  (Tree.leaf (SV.tup [(SV.agg [(SV.arr IntKind.u32 16 x0.regs), (SV.v (Value.int IntKind.u32 x0.pc)), (SV.arr IntKind.u32 12 x0.csr), (SV.rd ETy.u8 m.mem), (SV.v (Value.int IntKind.u64 (IntKind.wrap IntKind.u64 (m.time + (1 : Int))))), (SV.rd ETy.u8 m.out), (SV.v (Value.bool m.halted))]), (SV.agg [(SV.v (Value.int IntKind.i64 t.cause)), (SV.v (Value.int IntKind.u32 t.tval))])])) := by kernel_rfl
theorem a_step_end (m : PMach) (t : PTrap) (ok_m : okMach m) (ok_t : okTrap t) : (evF E_step_end 60 51 (encArgs [.mach, .trap] (m, t, ()))).ends fun out_ => decO [.mach, .trap] out_ = some (K.endS m t) := by
  rw [t_step_end, Tree.ends_holds]
  simp only [Tree.holds_loop, Tree.holds_fork, Tree.holds_next, if_true, Tree.holds_cond, Tree.holds_letv, Tree.holds_leaf, Tree.holds_fail, decO, decA, decTup, decMach, decCore, decTrap, decInstr, decPart, decGuest, decConf, decEvent, decVcpu, decStep, bytesS, boolS, eventsS, intsS, guestsS, vcpusS, rowS, castL, Option.bind_some, Option.map_some, Option.some.injEq, Nat.beq_refl, beq_self_eq_true, Bool.and_self, cond_true, cond_false, eq_self, K.endS, wrap64]
  repeat' (first | refine drop_ok ?_ | intro _ | with_reducible apply And.intro)
  all_goals simp_all
  
theorem c_step_end : SpecOk EB 51 S_step_end := spec_sig ok_step_end (n := 60) fun ⟨m, t, ⟨⟩⟩ h hok => a_step_end m t (ok_mach (okSL_head hok)) (ok_trap (okSL_head (okSL_tail hok)))

/-! reloc_Translate -/

def S_reloc_Translate : Spec := sig [.i .u32, .i .u32, .i .u32, .i .u32, .i .i64] [.i .u32, .b] (fun (base, bound, size, a, n, _) => K.reloc base bound size a n) (pre := fun (base, bound, size, a, n, _) => decide (0 ≤ n ∧ n ≤ 1099511627776))
noncomputable def E_reloc_Translate : Env := EB.adds []

theorem ok_reloc_Translate : EnvOk E_reloc_Translate := okEB.adds (l := _) trivial

theorem t_reloc_Translate (base : Int) (bound : Int) (size : Int) (a : Int) (n : Int) : evF E_reloc_Translate 60 139 (encArgs [.i .u32, .i .u32, .i .u32, .i .u32, .i .i64] (base, bound, size, a, n, ())) = 
  bif (decide ((IntKind.wrap IntKind.u64 ((IntKind.wrap IntKind.u64 a) + (IntKind.wrap IntKind.u64 n))) > (IntKind.wrap IntKind.u64 bound))) then
    (Tree.leaf (SV.tup [(SV.v (Value.int IntKind.u32 (0 : Int))), (SV.b false)]))
  else
    (bif (decide ((IntKind.wrap IntKind.u64 ((IntKind.wrap IntKind.u64 base) + (IntKind.wrap IntKind.u64 ((IntKind.wrap IntKind.u64 a) + (IntKind.wrap IntKind.u64 n))))) > (IntKind.wrap IntKind.u64 size))) then
      (Tree.leaf (SV.tup [(SV.v (Value.int IntKind.u32 (0 : Int))), (SV.b false)]))
    else
      (Tree.leaf (SV.tup [(SV.v (Value.int IntKind.u32 (IntKind.wrap IntKind.u32 (base + a)))), (SV.b true)]))) := by kernel_rfl
theorem a_reloc_Translate (base : Int) (bound : Int) (size : Int) (a : Int) (n : Int) (hpre : 0 ≤ n ∧ n ≤ 1099511627776) (ok_base : okI .u32 base) (ok_bound : okI .u32 bound) (ok_size : okI .u32 size) (ok_a : okI .u32 a) (ok_n : okI .i64 n) : (evF E_reloc_Translate 60 139 (encArgs [.i .u32, .i .u32, .i .u32, .i .u32, .i .i64] (base, bound, size, a, n, ()))).ends fun out_ => decO [.i .u32, .b] out_ = some (K.reloc base bound size a n) := by
  rw [t_reloc_Translate, Tree.ends_holds]
  obtain ⟨a0, a1⟩ := okI_u32 ok_a
  obtain ⟨b0, b1⟩ := okI_u32 ok_base
  obtain ⟨c0, c1⟩ := okI_u32 ok_bound
  obtain ⟨d0, d1⟩ := okI_u32 ok_size
  have e1 : IntKind.u64.wrap a = a := by rw [wrap64]; omega
  have e2 : IntKind.u64.wrap n = n := by rw [wrap64]; omega
  have e3 : IntKind.u64.wrap size = size := by rw [wrap64]; omega
  have e4 : IntKind.u64.wrap (a + n) = a + n := by rw [wrap64]; omega
  have e5 : IntKind.u64.wrap base = base := by rw [wrap64]; omega
  have e6 : IntKind.u64.wrap bound = bound := by rw [wrap64]; omega
  have e7 : IntKind.u64.wrap (base + (a + n)) = base + (a + n) := by rw [wrap64]; omega
  simp only [Tree.holds_loop, Tree.holds_fork, Tree.holds_next, if_true, Tree.holds_cond, Tree.holds_letv, Tree.holds_leaf, Tree.holds_fail, decO, decA, decTup, decMach, decCore, decTrap, decInstr, decPart, decGuest, decConf, decEvent, decVcpu, decStep, bytesS, boolS, eventsS, intsS, guestsS, vcpusS, rowS, castL, Option.bind_some, Option.map_some, Option.some.injEq, Nat.beq_refl, beq_self_eq_true, Bool.and_self, cond_true, cond_false, eq_self, beq_iff_eq, beq_eq_false_iff_ne, bne_iff_ne, bne_eq_false_iff_eq, ne_eq, decide_eq_true_eq, decide_eq_false_iff_not, ble_true, ble_false, inRange_iff, inRange_false, K.reloc, e1, e2, e3, e4, e5, e6, e7]
  repeat' (first | refine drop_ok ?_ | intro _ | with_reducible apply And.intro)
  · rw [if_neg (by omega)]
  · rw [if_neg (by omega)]
  · rw [if_pos (by omega), show IntKind.u32.wrap (base + a) = base + a by rw [wrap32]; omega]
  
theorem c_reloc_Translate : SpecOk EB 139 S_reloc_Translate := spec_sig ok_reloc_Translate (n := 60) fun ⟨base, bound, size, a, n, ⟨⟩⟩ h hok => a_reloc_Translate base bound size a n (of_decide_eq_true h) (ok_int (okSL_head hok)) (ok_int (okSL_head (okSL_tail hok))) (ok_int (okSL_head (okSL_tail (okSL_tail hok)))) (ok_int (okSL_head (okSL_tail (okSL_tail (okSL_tail hok))))) (ok_int (okSL_head (okSL_tail (okSL_tail (okSL_tail (okSL_tail hok))))))

/-! reloc_TranslateCore -/

def S_reloc_TranslateCore : Spec := sig [.core, .i .u32, .i .u32, .i .i64] [.i .u32, .b] (fun (c, size, a, n, _) => K.trans c size a n) (pre := fun (c, size, a, n, _) => decide (0 ≤ n ∧ n ≤ 1099511627776))
noncomputable def E_reloc_TranslateCore : Env := EB.adds [(139, S_reloc_Translate)]

theorem ok_reloc_TranslateCore : EnvOk E_reloc_TranslateCore := okEB.adds (l := _) ⟨c_reloc_Translate, trivial⟩

theorem t_reloc_TranslateCore (c : PCore) (size : Int) (a : Int) (n : Int) : evF E_reloc_TranslateCore 60 127 (encArgs [.core, .i .u32, .i .u32, .i .i64] (c, size, a, n, ())) = 
  bif (bne (andI IntKind.u32 (List.getD c.csr 0 (0 : Int)) (1 : Int)) (0 : Int)) then
    (bif (decide (And ((0 : Int) ≤ n) (n ≤ (1099511627776 : Int)))) then
      (Tree.letv (okO [(AT.i IntKind.u32), AT.b]) (K.reloc (0 : Int) size size a n) fun x0 =>
      (bif x0.snd then
        (Tree.leaf (SV.tup [(SV.v (Value.int IntKind.u32 x0.fst)), (SV.b true)]))
      else
        (Tree.leaf (SV.tup [(SV.v (Value.int IntKind.u32 x0.fst)), (SV.b false)]))))
    else
      (Tree.fail))
  else
    (bif (decide (And ((0 : Int) ≤ n) (n ≤ (1099511627776 : Int)))) then
      (Tree.letv (okO [(AT.i IntKind.u32), AT.b]) (K.reloc (List.getD c.csr 5 (0 : Int)) (List.getD c.csr 6 (0 : Int)) size a n) fun x0 =>
      (bif x0.snd then
        (Tree.leaf (SV.tup [(SV.v (Value.int IntKind.u32 x0.fst)), (SV.b true)]))
      else
        (Tree.leaf (SV.tup [(SV.v (Value.int IntKind.u32 x0.fst)), (SV.b false)]))))
    else
      (Tree.fail)) := by kernel_rfl
theorem a_reloc_TranslateCore (c : PCore) (size : Int) (a : Int) (n : Int) (hpre : 0 ≤ n ∧ n ≤ 1099511627776) (ok_c : okCore c) (ok_size : okI .u32 size) (ok_a : okI .u32 a) (ok_n : okI .i64 n) : (evF E_reloc_TranslateCore 60 127 (encArgs [.core, .i .u32, .i .u32, .i .i64] (c, size, a, n, ()))).ends fun out_ => decO [.i .u32, .b] out_ = some (K.trans c size a n) := by
  rw [t_reloc_TranslateCore, Tree.ends_holds]
  obtain ⟨s0, s1⟩ := ok_c.csr.u32 (i := 0) (by omega)
  simp only [Tree.holds_loop, Tree.holds_fork, Tree.holds_next, if_true, Tree.holds_cond, Tree.holds_letv, Tree.holds_leaf, Tree.holds_fail, decO, decA, decTup, decMach, decCore, decTrap, decInstr, decPart, decGuest, decConf, decEvent, decVcpu, decStep, bytesS, boolS, eventsS, intsS, guestsS, vcpusS, rowS, castL, Option.bind_some, Option.map_some, Option.some.injEq, Nat.beq_refl, beq_self_eq_true, Bool.and_self, cond_true, cond_false, eq_self, beq_iff_eq, beq_eq_false_iff_ne, bne_iff_ne, bne_eq_false_iff_eq, ne_eq, decide_eq_true_eq, decide_eq_false_iff_not, ble_true, ble_false, inRange_iff, inRange_false, and_1 s0 s1]
  have h1 : ¬ c.csr.getD 0 0 % 2 = 0 → K.trans c size a n = K.reloc 0 size size a n := fun h => by unfold K.trans K.super; rw [if_pos (by simp only [beq_iff_eq]; omega)]
  have h2 : c.csr.getD 0 0 % 2 = 0 → K.trans c size a n = K.reloc (c.csr.getD 5 0) (c.csr.getD 6 0) size a n := fun h => by unfold K.trans K.super; rw [if_neg (by rw [h]; decide)]
  repeat' (first | refine drop_ok ?_ | intro _ | with_reducible apply And.intro)
  all_goals first | omega | (rename_i q; rw [← q]; first | rw [h1 (by assumption)] | rw [h2 (by assumption)])
  
theorem c_reloc_TranslateCore : SpecOk EB 127 S_reloc_TranslateCore := spec_sig ok_reloc_TranslateCore (n := 60) fun ⟨c, size, a, n, ⟨⟩⟩ h hok => a_reloc_TranslateCore c size a n (of_decide_eq_true h) (ok_core (okSL_head hok)) (ok_int (okSL_head (okSL_tail hok))) (ok_int (okSL_head (okSL_tail (okSL_tail hok)))) (ok_int (okSL_head (okSL_tail (okSL_tail (okSL_tail hok)))))

/-! fetch_Resolve -/

def S_fetch_Resolve : Spec := sig [.mach, .i .u32, .i .i64] [.i .u32, .trap] (fun (m, a, n, _) => K.cell m a n) (pre := fun (m, a, n, _) => decide (n = 1 ∨ n = 4))
noncomputable def E_fetch_Resolve : Env := EB_2.adds [(127, S_reloc_TranslateCore)]

theorem ok_fetch_Resolve : EnvOk E_fetch_Resolve := okEB_2.adds (l := _) ⟨(up_to_2 c_reloc_TranslateCore), trivial⟩

theorem t_fetch_Resolve (m : PMach) (a : Int) (n : Int) : evF E_fetch_Resolve 60 122 (encArgs [.mach, .i .u32, .i .i64] (m, a, n, ())) = 
  bif (bne (IntKind.wrap IntKind.u32 n) (0 : Int)) then
    (bif (bne (Int.tmod a (IntKind.wrap IntKind.u32 n)) (0 : Int)) then
      (Tree.leaf (SV.tup [(SV.v (Value.int IntKind.u32 (0 : Int))), (SV.agg [(SV.v (Value.int IntKind.i64 (4 : Int))), (SV.v (Value.int IntKind.u32 a))])]))
    else
      (bif (decide (And ((0 : Int) ≤ n) (n ≤ (1099511627776 : Int)))) then
        (Tree.letv (okO [(AT.i IntKind.u32), AT.b]) (K.trans m.core (IntKind.wrap IntKind.u32 (Int.ofNat (List.length m.mem))) a n) fun x0 =>
        (bif x0.snd then
          (Tree.leaf (SV.tup [(SV.v (Value.int IntKind.u32 x0.fst)), (SV.agg [(SV.v (Value.int IntKind.i64 (0 : Int))), (SV.v (Value.int IntKind.u32 (0 : Int)))])]))
        else
          (Tree.leaf (SV.tup [(SV.v (Value.int IntKind.u32 (0 : Int))), (SV.agg [(SV.v (Value.int IntKind.i64 (3 : Int))), (SV.v (Value.int IntKind.u32 a))])]))))
      else
        (Tree.fail)))
  else
    (Tree.fail) := by kernel_rfl
theorem a_fetch_Resolve (m : PMach) (a : Int) (n : Int) (hpre : n = 1 ∨ n = 4) (ok_m : okMach m) (ok_a : okI .u32 a) (ok_n : okI .i64 n) : (evF E_fetch_Resolve 60 122 (encArgs [.mach, .i .u32, .i .i64] (m, a, n, ()))).ends fun out_ => decO [.i .u32, .trap] out_ = some (K.cell m a n) := by
  rw [t_fetch_Resolve, Tree.ends_holds]
  obtain ⟨a0, a1⟩ := okI_u32 ok_a
  have hn : 1 ≤ n ∧ n ≤ 4 := by omega
  have e1 : IntKind.u32.wrap n = n := by rw [wrap32]; omega
  have e2 : Int.tmod a n = a % n := Int.tmod_eq_emod_of_nonneg a0
  have e3 : IntKind.u32.wrap (m.mem.length : Int) = (m.mem.length : Int) % 4294967296 := wrap32 _
  simp only [Tree.holds_loop, Tree.holds_fork, Tree.holds_next, if_true, Tree.holds_cond, Tree.holds_letv, Tree.holds_leaf, Tree.holds_fail, decO, decA, decTup, decMach, decCore, decTrap, decInstr, decPart, decGuest, decConf, decEvent, decVcpu, decStep, bytesS, boolS, eventsS, intsS, guestsS, vcpusS, rowS, castL, Option.bind_some, Option.map_some, Option.some.injEq, Nat.beq_refl, beq_self_eq_true, Bool.and_self, cond_true, cond_false, eq_self, beq_iff_eq, beq_eq_false_iff_ne, bne_iff_ne, bne_eq_false_iff_eq, ne_eq, decide_eq_true_eq, decide_eq_false_iff_not, ble_true, ble_false, inRange_iff, inRange_false, Int.ofNat_eq_natCast, e1, e2, e3, K.cell]
  repeat' (first | refine drop_ok ?_ | intro _ | with_reducible apply And.intro)
  all_goals first | omega | (simp_all; done)
  
theorem c_fetch_Resolve : SpecOk EB_2 122 S_fetch_Resolve := spec_sig ok_fetch_Resolve (n := 60) fun ⟨m, a, n, ⟨⟩⟩ h hok => a_fetch_Resolve m a n (of_decide_eq_true h) (ok_mach (okSL_head hok)) (ok_int (okSL_head (okSL_tail hok))) (ok_int (okSL_head (okSL_tail (okSL_tail hok))))

/-! mem_InRange -/

def S_mem_InRange : Spec := sig [.i .i64, .i .u32, .i .i64] [.b] (fun (size, a, n, _) => K.inR size a n) (pre := fun (size, a, n, _) => decide (0 ≤ n ∧ n ≤ 1099511627776 ∧ 0 ≤ size))
noncomputable def E_mem_InRange : Env := EB.adds []

theorem ok_mem_InRange : EnvOk E_mem_InRange := okEB.adds (l := _) trivial

theorem t_mem_InRange (size : Int) (a : Int) (n : Int) : evF E_mem_InRange 60 128 (encArgs [.i .i64, .i .u32, .i .i64] (size, a, n, ())) = 
  bif (decide ((IntKind.wrap IntKind.u64 ((IntKind.wrap IntKind.u64 a) + (IntKind.wrap IntKind.u64 n))) ≤ (IntKind.wrap IntKind.u64 size))) then
    (Tree.leaf (SV.b true))
  else
    (Tree.leaf (SV.b false)) := by kernel_rfl
theorem a_mem_InRange (size : Int) (a : Int) (n : Int) (hpre : 0 ≤ n ∧ n ≤ 1099511627776 ∧ 0 ≤ size) (ok_size : okI .i64 size) (ok_a : okI .u32 a) (ok_n : okI .i64 n) : (evF E_mem_InRange 60 128 (encArgs [.i .i64, .i .u32, .i .i64] (size, a, n, ()))).ends fun out_ => decO [.b] out_ = some (K.inR size a n) := by
  rw [t_mem_InRange, Tree.ends_holds]
  obtain ⟨a0, a1⟩ := okI_u32 ok_a
  obtain ⟨s0, s1⟩ := okI_i64 ok_size
  have e1 : IntKind.u64.wrap a = a := by rw [wrap64]; omega
  have e2 : IntKind.u64.wrap n = n := by rw [wrap64]; omega
  have e3 : IntKind.u64.wrap size = size := by rw [wrap64]; omega
  have e4 : IntKind.u64.wrap (a + n) = a + n := by rw [wrap64]; omega
  simp only [Tree.holds_loop, Tree.holds_fork, Tree.holds_next, if_true, Tree.holds_cond, Tree.holds_letv, Tree.holds_leaf, Tree.holds_fail, decO, decA, decTup, decMach, decCore, decTrap, decInstr, decPart, decGuest, decConf, decEvent, decVcpu, decStep, bytesS, boolS, eventsS, intsS, guestsS, vcpusS, rowS, castL, Option.bind_some, Option.map_some, Option.some.injEq, Nat.beq_refl, beq_self_eq_true, Bool.and_self, cond_true, cond_false, eq_self, beq_iff_eq, beq_eq_false_iff_ne, bne_iff_ne, bne_eq_false_iff_eq, ne_eq, decide_eq_true_eq, decide_eq_false_iff_not, ble_true, ble_false, inRange_iff, inRange_false, K.inR, e1, e2, e3, e4]
  repeat' (first | refine drop_ok ?_ | intro _ | with_reducible apply And.intro)
  all_goals simp_all
  
theorem c_mem_InRange : SpecOk EB 128 S_mem_InRange := spec_sig ok_mem_InRange (n := 60) fun ⟨size, a, n, ⟨⟩⟩ h hok => a_mem_InRange size a n (of_decide_eq_true h) (ok_int (okSL_head hok)) (ok_int (okSL_head (okSL_tail hok))) (ok_int (okSL_head (okSL_tail (okSL_tail hok))))

/-! mem_Load -/

def S_mem_Load : Spec := sig [.rd .u8, .i .u32, .i .i64] [.i .u32, .b] (fun (m, a, n, _) => if K.inR m.length a n = true then (K.ld m a n, true) else (0, false)) (pre := fun (m, a, n, _) => decide (n = 1 ∨ n = 4))
noncomputable def E_mem_Load : Env := EB.adds [(128, S_mem_InRange)]

theorem ok_mem_Load : EnvOk E_mem_Load := okEB.adds (l := _) ⟨c_mem_InRange, trivial⟩
theorem t1_c_mem_Load (m : List Int) (a : Int) : evF E_mem_Load 60 123 [.rd .u8 m, .v (.int .u32 a), .v (.int .i64 1)] = 
  bif (decide (And ((0 : Int) ≤ (1 : Int)) (And ((1 : Int) ≤ (1099511627776 : Int)) ((0 : Int) ≤ (Int.ofNat (List.length m)))))) then
    (Tree.letv (okO [AT.b]) (K.inR (Int.ofNat (List.length m)) a (1 : Int)) fun x0 =>
    (bif x0 then
      (bif (inRange (IntKind.wrap IntKind.i64 ((IntKind.wrap IntKind.i64 a) + (0 : Int))) (List.length m)) then
        (Tree.leaf (SV.tup [(SV.v (Value.int IntKind.u32 (orI IntKind.u32 (0 : Int) (IntKind.wrap IntKind.u32 ((IntKind.wrap IntKind.u32 (List.getD m (Int.toNat (IntKind.wrap IntKind.i64 ((IntKind.wrap IntKind.i64 a) + (0 : Int)))) (0 : Int))) * (1 : Int)))))), (SV.b true)]))
      else
        (Tree.fail))
    else
      (Tree.leaf (SV.tup [(SV.v (Value.int IntKind.u32 (0 : Int))), (SV.b false)]))))
  else
    (Tree.fail) := by kernel_rfl
theorem t4_c_mem_Load (m : List Int) (a : Int) : evF E_mem_Load 60 123 [.rd .u8 m, .v (.int .u32 a), .v (.int .i64 4)] = 
  bif (decide (And ((0 : Int) ≤ (4 : Int)) (And ((4 : Int) ≤ (1099511627776 : Int)) ((0 : Int) ≤ (Int.ofNat (List.length m)))))) then
    (Tree.letv (okO [AT.b]) (K.inR (Int.ofNat (List.length m)) a (4 : Int)) fun x0 =>
    (bif x0 then
      (bif (inRange (IntKind.wrap IntKind.i64 ((IntKind.wrap IntKind.i64 a) + (0 : Int))) (List.length m)) then
        (bif (inRange (IntKind.wrap IntKind.i64 ((IntKind.wrap IntKind.i64 a) + (1 : Int))) (List.length m)) then
          (bif (inRange (IntKind.wrap IntKind.i64 ((IntKind.wrap IntKind.i64 a) + (2 : Int))) (List.length m)) then
            (bif (inRange (IntKind.wrap IntKind.i64 ((IntKind.wrap IntKind.i64 a) + (3 : Int))) (List.length m)) then
              (Tree.leaf (SV.tup [(SV.v (Value.int IntKind.u32 (orI IntKind.u32 (orI IntKind.u32 (orI IntKind.u32 (orI IntKind.u32 (0 : Int) (IntKind.wrap IntKind.u32 ((IntKind.wrap IntKind.u32 (List.getD m (Int.toNat (IntKind.wrap IntKind.i64 ((IntKind.wrap IntKind.i64 a) + (0 : Int)))) (0 : Int))) * (1 : Int)))) (IntKind.wrap IntKind.u32 ((IntKind.wrap IntKind.u32 (List.getD m (Int.toNat (IntKind.wrap IntKind.i64 ((IntKind.wrap IntKind.i64 a) + (1 : Int)))) (0 : Int))) * (256 : Int)))) (IntKind.wrap IntKind.u32 ((IntKind.wrap IntKind.u32 (List.getD m (Int.toNat (IntKind.wrap IntKind.i64 ((IntKind.wrap IntKind.i64 a) + (2 : Int)))) (0 : Int))) * (65536 : Int)))) (IntKind.wrap IntKind.u32 ((IntKind.wrap IntKind.u32 (List.getD m (Int.toNat (IntKind.wrap IntKind.i64 ((IntKind.wrap IntKind.i64 a) + (3 : Int)))) (0 : Int))) * (16777216 : Int)))))), (SV.b true)]))
            else
              (Tree.fail))
          else
            (Tree.fail))
        else
          (Tree.fail))
      else
        (Tree.fail))
    else
      (Tree.leaf (SV.tup [(SV.v (Value.int IntKind.u32 (0 : Int))), (SV.b false)]))))
  else
    (Tree.fail) := by kernel_rfl
theorem a1_c_mem_Load (m : List Int) (a : Int) (ok_m : okBytes m) (ok_a : okI .u32 a) : (evF E_mem_Load 60 123 [.rd .u8 m, .v (.int .u32 a), .v (.int .i64 1)]).ends fun out_ => decO [.i .u32, .b] out_ = some (if K.inR m.length a 1 = true then (K.ld m a 1, true) else (0, false)) := by
  rw [t1_c_mem_Load, Tree.ends_holds]
  obtain ⟨a0, a1⟩ := okI_u32 ok_a
  have b0 := byte_at ok_m a.toNat
  have i0 : IntKind.i64.wrap (IntKind.i64.wrap a + 0) = a := by rw [wrapI64 (by rw [wrapI64 (by omega) (by omega)]; omega) (by rw [wrapI64 (by omega) (by omega)]; omega), wrapI64 (by omega) (by omega)]; omega
  have v0 : IntKind.u32.wrap (IntKind.u32.wrap (m.getD a.toNat 0) * 1) = m.getD a.toNat 0 := by rw [wrap32, wrap32]; omega
  simp only [Tree.holds_loop, Tree.holds_fork, Tree.holds_next, if_true, Tree.holds_cond, Tree.holds_letv, Tree.holds_leaf, Tree.holds_fail, decO, decA, decTup, decMach, decCore, decTrap, decInstr, decPart, decGuest, decConf, decEvent, decVcpu, decStep, bytesS, boolS, eventsS, intsS, guestsS, vcpusS, rowS, castL, Option.bind_some, Option.map_some, Option.some.injEq, Nat.beq_refl, beq_self_eq_true, Bool.and_self, cond_true, cond_false, eq_self, beq_iff_eq, beq_eq_false_iff_ne, bne_iff_ne, bne_eq_false_iff_eq, ne_eq, decide_eq_true_eq, decide_eq_false_iff_not, ble_true, ble_false, inRange_iff, inRange_false, Int.ofNat_eq_natCast, i0, v0, or_zero b0.1 b0.2]
  repeat' (first | refine drop_ok ?_ | intro _ | with_reducible apply And.intro)
  all_goals first | (rw [if_pos (by assumption)]; rfl) | (rw [if_neg (by simp_all)]) | omega | (simp_all [K.inR]; omega)
theorem a4_c_mem_Load (m : List Int) (a : Int) (ok_m : okBytes m) (ok_a : okI .u32 a) : (evF E_mem_Load 60 123 [.rd .u8 m, .v (.int .u32 a), .v (.int .i64 4)]).ends fun out_ => decO [.i .u32, .b] out_ = some (if K.inR m.length a 4 = true then (K.ld m a 4, true) else (0, false)) := by
  rw [t4_c_mem_Load, Tree.ends_holds]
  obtain ⟨a0, a1⟩ := okI_u32 ok_a
  have ew : IntKind.i64.wrap a = a := wrapI64 (by omega) (by omega)
  have i0 : IntKind.i64.wrap (a + 0) = a := by rw [wrapI64 (by omega) (by omega)]; omega
  have i1 : IntKind.i64.wrap (a + 1) = a + 1 := wrapI64 (by omega) (by omega)
  have i2 : IntKind.i64.wrap (a + 2) = a + 2 := wrapI64 (by omega) (by omega)
  have i3 : IntKind.i64.wrap (a + 3) = a + 3 := wrapI64 (by omega) (by omega)
  have n1 : (a + 1).toNat = a.toNat + 1 := by omega
  have n2 : (a + 2).toNat = a.toNat + 2 := by omega
  have n3 : (a + 3).toNat = a.toNat + 3 := by omega
  obtain ⟨p0, q0⟩ := byte_at ok_m a.toNat
  obtain ⟨p1, q1⟩ := byte_at ok_m (a.toNat + 1)
  obtain ⟨p2, q2⟩ := byte_at ok_m (a.toNat + 2)
  obtain ⟨p3, q3⟩ := byte_at ok_m (a.toNat + 3)
  simp only [Tree.holds_loop, Tree.holds_fork, Tree.holds_next, if_true, Tree.holds_cond, Tree.holds_letv, Tree.holds_leaf, Tree.holds_fail, decO, decA, decTup, decMach, decCore, decTrap, decInstr, decPart, decGuest, decConf, decEvent, decVcpu, decStep, bytesS, boolS, eventsS, intsS, guestsS, vcpusS, rowS, castL, Option.bind_some, Option.map_some, Option.some.injEq, Nat.beq_refl, beq_self_eq_true, Bool.and_self, cond_true, cond_false, eq_self, beq_iff_eq, beq_eq_false_iff_ne, bne_iff_ne, bne_eq_false_iff_eq, ne_eq, decide_eq_true_eq, decide_eq_false_iff_not, ble_true, ble_false, inRange_iff, inRange_false, Int.ofNat_eq_natCast, ew, i0, i1, i2, i3, n1, n2, n3, wrap32, ld4 p0 q0 p1 q1 p2 q2 p3 q3]
  repeat' (first | refine drop_ok ?_ | intro _ | with_reducible apply And.intro)
  all_goals first | (rw [if_pos (by assumption)]; rfl) | (rw [if_neg (by simp_all)]) | omega | (simp_all [K.inR]; omega)
theorem c_mem_Load : SpecOk EB 123 S_mem_Load := spec_sig ok_mem_Load (n := 60) fun ⟨m, a, n, ⟨⟩⟩ h hok => by
  have h := of_decide_eq_true h
  have o1 := ok_bytes (okSL_head hok)
  have o2 := ok_int (okSL_head (okSL_tail hok))
  rcases h with h | h
  · have h : n = 1 := h
    subst h; exact a1_c_mem_Load m a o1 o2
  · have h : n = 4 := h
    subst h; exact a4_c_mem_Load m a o1 o2


/-! fetch_Load -/

def S_fetch_Load : Spec := sig [.mach, .i .u32, .i .i64] [.i .u32, .trap] (fun (m, a, n, _) => K.load m a n) (pre := fun (m, a, n, _) => decide (n = 1 ∨ n = 4))
noncomputable def E_fetch_Load : Env := EB_2.adds [(122, S_fetch_Resolve), (123, S_mem_Load)]

theorem ok_fetch_Load : EnvOk E_fetch_Load := okEB_2.adds (l := _) ⟨c_fetch_Resolve, (up_to_2 c_mem_Load), trivial⟩

theorem t_fetch_Load (m : PMach) (a : Int) (n : Int) : evF E_fetch_Load 60 112 (encArgs [.mach, .i .u32, .i .i64] (m, a, n, ())) = 
  bif (decide (Or (n = (1 : Int)) (n = (4 : Int)))) then
    (Tree.letv (okO [(AT.i IntKind.u32), AT.trap]) (K.cell m a n) fun x0 =>
    (bif (Bool.not (Bool.and (BEq.beq x0.snd.cause (0 : Int)) (Bool.and (BEq.beq x0.snd.tval (0 : Int)) true))) then
      (Tree.leaf (SV.tup [(SV.v (Value.int IntKind.u32 (0 : Int))), (SV.agg [(SV.v (Value.int IntKind.i64 x0.snd.cause)), (SV.v (Value.int IntKind.u32 x0.snd.tval))])]))
    else
      (bif (decide (Or (n = (1 : Int)) (n = (4 : Int)))) then
        (Tree.letv (okO [(AT.i IntKind.u32), AT.b]) (if ((K.inR (Int.ofNat (List.length m.mem)) x0.fst n) = true) then ((K.ld m.mem x0.fst n), true) else ((0 : Int), false)) fun x1 =>
        (bif x1.snd then
          (Tree.leaf (SV.tup [(SV.v (Value.int IntKind.u32 x1.fst)), (SV.agg [(SV.v (Value.int IntKind.i64 (0 : Int))), (SV.v (Value.int IntKind.u32 (0 : Int)))])]))
        else
          (Tree.leaf (SV.tup [(SV.v (Value.int IntKind.u32 x1.fst)), (SV.agg [(SV.v (Value.int IntKind.i64 (0 : Int))), (SV.v (Value.int IntKind.u32 (0 : Int)))])]))))
      else
        (Tree.fail))))
  else
    (Tree.fail) := by kernel_rfl
theorem a_fetch_Load (m : PMach) (a : Int) (n : Int) (hpre : n = 1 ∨ n = 4) (ok_m : okMach m) (ok_a : okI .u32 a) (ok_n : okI .i64 n) : (evF E_fetch_Load 60 112 (encArgs [.mach, .i .u32, .i .i64] (m, a, n, ()))).ends fun out_ => decO [.i .u32, .trap] out_ = some (K.load m a n) := by
  rw [t_fetch_Load, Tree.ends_holds]
  obtain ⟨a0, a1⟩ := okI_u32 ok_a
  have hr := fun h => cell_range ok_m.core (a := a) (n := n) a0 (by omega) h
  simp only [Tree.holds_loop, Tree.holds_fork, Tree.holds_next, if_true, Tree.holds_cond, Tree.holds_letv, Tree.holds_leaf, Tree.holds_fail, decO, decA, decTup, decMach, decCore, decTrap, decInstr, decPart, decGuest, decConf, decEvent, decVcpu, decStep, bytesS, boolS, eventsS, intsS, guestsS, vcpusS, rowS, castL, Option.bind_some, Option.map_some, Option.some.injEq, Nat.beq_refl, beq_self_eq_true, Bool.and_self, cond_true, cond_false, eq_self, beq_iff_eq, beq_eq_false_iff_ne, bne_iff_ne, bne_eq_false_iff_eq, ne_eq, decide_eq_true_eq, decide_eq_false_iff_not, ble_true, ble_false, inRange_iff, inRange_false, Int.ofNat_eq_natCast, K.load]
  by_cases h : (K.cell m a n).2.cause = 0
  · have ht := cell_zero h
    have hi : K.inR m.mem.length (K.cell m a n).1 n = true := by have := hr h; simp only [K.inR, decide_eq_true_eq]; omega
    simp only [h, ht, hi, if_true]
    simp [hpre]
  · simp [h, hpre]
  
theorem c_fetch_Load : SpecOk EB_2 112 S_fetch_Load := spec_sig ok_fetch_Load (n := 60) fun ⟨m, a, n, ⟨⟩⟩ h hok => a_fetch_Load m a n (of_decide_eq_true h) (ok_mach (okSL_head hok)) (ok_int (okSL_head (okSL_tail hok))) (ok_int (okSL_head (okSL_tail (okSL_tail hok))))

/-! fetch_Fetch -/

def S_fetch_Fetch : Spec := sig [.mach] [.i .u32, .trap] (fun (m, _) => K.load m m.core.pc 4)
noncomputable def E_fetch_Fetch : Env := EB_2.adds [(112, S_fetch_Load)]

theorem ok_fetch_Fetch : EnvOk E_fetch_Fetch := okEB_2.adds (l := _) ⟨c_fetch_Load, trivial⟩

theorem t_fetch_Fetch (m : PMach) : evF E_fetch_Fetch 60 96 (encArgs [.mach] (m, ())) = 
  Tree.letv (okO [(AT.i IntKind.u32), AT.trap]) (K.load m m.core.pc (4 : Int)) fun x0 =>
  (Tree.leaf (SV.tup [(SV.v (Value.int IntKind.u32 x0.fst)), (SV.agg [(SV.v (Value.int IntKind.i64 x0.snd.cause)), (SV.v (Value.int IntKind.u32 x0.snd.tval))])])) := by kernel_rfl
theorem a_fetch_Fetch (m : PMach) (ok_m : okMach m) : (evF E_fetch_Fetch 60 96 (encArgs [.mach] (m, ()))).ends fun out_ => decO [.i .u32, .trap] out_ = some (K.load m m.core.pc 4) := by
  rw [t_fetch_Fetch, Tree.ends_holds]
  simp only [Tree.holds_loop, Tree.holds_fork, Tree.holds_next, if_true, Tree.holds_cond, Tree.holds_letv, Tree.holds_leaf, Tree.holds_fail, decO, decA, decTup, decMach, decCore, decTrap, decInstr, decPart, decGuest, decConf, decEvent, decVcpu, decStep, bytesS, boolS, eventsS, intsS, guestsS, vcpusS, rowS, castL, Option.bind_some, Option.map_some, Option.some.injEq, Nat.beq_refl, beq_self_eq_true, Bool.and_self, cond_true, cond_false, eq_self, beq_iff_eq, beq_eq_false_iff_ne, bne_iff_ne, bne_eq_false_iff_eq, ne_eq, decide_eq_true_eq, decide_eq_false_iff_not, ble_true, ble_false, inRange_iff, inRange_false]
  repeat' (first | refine drop_ok ?_ | intro _ | with_reducible apply And.intro)
  all_goals first | trivial | omega | (simp_all; done)
  
theorem c_fetch_Fetch : SpecOk EB_2 96 S_fetch_Fetch := spec_sig ok_fetch_Fetch (n := 60) fun ⟨m, ⟨⟩⟩ h hok => a_fetch_Fetch m (ok_mach (okSL_head hok))

/-! step_Current -/

def S_step_Current : Spec := sig [.mach] [.instr, .trap] (fun (m, _) => K.cur m)
noncomputable def E_step_Current : Env := EB_0_1_2.adds [(96, S_fetch_Fetch), (53, S_isa_Decode), (54, S_isa_IsPrivileged), (41, S_trap_IsSupervisor)]

theorem ok_step_Current : EnvOk E_step_Current := okEB_0_1_2.adds (l := _) ⟨(up_2_to_0_1_2 c_fetch_Fetch), (up_0_1_to_0_1_2 c_isa_Decode), (up_to_0_1_2 c_isa_IsPrivileged), (up_to_0_1_2 c_trap_IsSupervisor), trivial⟩

theorem t_step_Current (m : PMach) : evF E_step_Current 60 81 (encArgs [.mach] (m, ())) = 
  Tree.letv (okO [(AT.i IntKind.u32), AT.trap]) (K.load m m.core.pc (4 : Int)) fun x0 =>
  (bif (bne x0.snd.cause (0 : Int)) then
    (Tree.leaf (SV.tup [(SV.agg [(SV.v (Value.int IntKind.i64 (0 : Int))), (SV.v (Value.int IntKind.i64 (0 : Int))), (SV.v (Value.int IntKind.i64 (0 : Int))), (SV.v (Value.int IntKind.i64 (0 : Int))), (SV.v (Value.int IntKind.i32 (0 : Int)))]), (SV.agg [(SV.v (Value.int IntKind.i64 x0.snd.cause)), (SV.v (Value.int IntKind.u32 x0.snd.tval))])]))
  else
    (Tree.letv (okO [AT.instr, AT.b]) (K.decode x0.fst) fun x1 =>
    (bif x1.snd then
      (Tree.letv (okO [AT.b]) (K.privd x1.fst.op) fun x2 =>
      (bif x2 then
        (Tree.letv (okO [AT.b]) (K.super m.core) fun x3 =>
        (bif x3 then
          (Tree.leaf (SV.tup [(SV.agg [(SV.v (Value.int IntKind.i64 x1.fst.op)), (SV.v (Value.int IntKind.i64 x1.fst.rd)), (SV.v (Value.int IntKind.i64 x1.fst.ra)), (SV.v (Value.int IntKind.i64 x1.fst.rb)), (SV.v (Value.int IntKind.i32 x1.fst.imm))]), (SV.agg [(SV.v (Value.int IntKind.i64 (0 : Int))), (SV.v (Value.int IntKind.u32 (0 : Int)))])]))
        else
          (Tree.leaf (SV.tup [(SV.agg [(SV.v (Value.int IntKind.i64 (0 : Int))), (SV.v (Value.int IntKind.i64 (0 : Int))), (SV.v (Value.int IntKind.i64 (0 : Int))), (SV.v (Value.int IntKind.i64 (0 : Int))), (SV.v (Value.int IntKind.i32 (0 : Int)))]), (SV.agg [(SV.v (Value.int IntKind.i64 (2 : Int))), (SV.v (Value.int IntKind.u32 x0.fst))])]))))
      else
        (Tree.leaf (SV.tup [(SV.agg [(SV.v (Value.int IntKind.i64 x1.fst.op)), (SV.v (Value.int IntKind.i64 x1.fst.rd)), (SV.v (Value.int IntKind.i64 x1.fst.ra)), (SV.v (Value.int IntKind.i64 x1.fst.rb)), (SV.v (Value.int IntKind.i32 x1.fst.imm))]), (SV.agg [(SV.v (Value.int IntKind.i64 (0 : Int))), (SV.v (Value.int IntKind.u32 (0 : Int)))])]))))
    else
      (Tree.leaf (SV.tup [(SV.agg [(SV.v (Value.int IntKind.i64 (0 : Int))), (SV.v (Value.int IntKind.i64 (0 : Int))), (SV.v (Value.int IntKind.i64 (0 : Int))), (SV.v (Value.int IntKind.i64 (0 : Int))), (SV.v (Value.int IntKind.i32 (0 : Int)))]), (SV.agg [(SV.v (Value.int IntKind.i64 (1 : Int))), (SV.v (Value.int IntKind.u32 x0.fst))])]))))) := by kernel_rfl
theorem a_step_Current (m : PMach) (ok_m : okMach m) : (evF E_step_Current 60 81 (encArgs [.mach] (m, ()))).ends fun out_ => decO [.instr, .trap] out_ = some (K.cur m) := by
  rw [t_step_Current, Tree.ends_holds]
  simp only [Tree.holds_loop, Tree.holds_fork, Tree.holds_next, if_true, Tree.holds_cond, Tree.holds_letv, Tree.holds_leaf, Tree.holds_fail, decO, decA, decTup, decMach, decCore, decTrap, decInstr, decPart, decGuest, decConf, decEvent, decVcpu, decStep, bytesS, boolS, eventsS, intsS, guestsS, vcpusS, rowS, castL, Option.bind_some, Option.map_some, Option.some.injEq, Nat.beq_refl, beq_self_eq_true, Bool.and_self, cond_true, cond_false, eq_self, beq_iff_eq, beq_eq_false_iff_ne, bne_iff_ne, bne_eq_false_iff_eq, ne_eq, decide_eq_true_eq, decide_eq_false_iff_not, ble_true, ble_false, inRange_iff, inRange_false]
  unfold K.cur
  repeat' (first | refine drop_ok ?_ | intro _ | with_reducible apply And.intro)
  all_goals simp_all
  
theorem c_step_Current : SpecOk EB_0_1_2 81 S_step_Current := spec_sig ok_step_Current (n := 60) fun ⟨m, ⟨⟩⟩ h hok => a_step_Current m (ok_mach (okSL_head hok))

/-! exec_Advance -/

def S_exec_Advance : Spec := sig [.core, .i .u32] [.core] (fun (c, by_, _) => { regs := c.regs, pc := (c.pc + by_) % 4294967296, csr := c.csr })
noncomputable def E_exec_Advance : Env := EB.adds []

theorem ok_exec_Advance : EnvOk E_exec_Advance := okEB.adds (l := _) trivial

theorem t_exec_Advance (c : PCore) (by_ : Int) : evF E_exec_Advance 60 60 (encArgs [.core, .i .u32] (c, by_, ())) = 
  Tree.leaf (SV.agg [(SV.arr IntKind.u32 16 c.regs), (SV.v (Value.int IntKind.u32 (IntKind.wrap IntKind.u32 (c.pc + by_)))), (SV.arr IntKind.u32 12 c.csr)]) := by kernel_rfl
theorem a_exec_Advance (c : PCore) (by_ : Int) (ok_c : okCore c) (ok_by_ : okI .u32 by_) : (evF E_exec_Advance 60 60 (encArgs [.core, .i .u32] (c, by_, ()))).ends fun out_ => decO [.core] out_ = some ({ regs := c.regs, pc := (c.pc + by_) % 4294967296, csr := c.csr }) := by
  rw [t_exec_Advance, Tree.ends_holds]
  simp only [Tree.holds_loop, Tree.holds_fork, Tree.holds_next, if_true, Tree.holds_cond, Tree.holds_letv, Tree.holds_leaf, Tree.holds_fail, decO, decA, decTup, decMach, decCore, decTrap, decInstr, decPart, decGuest, decConf, decEvent, decVcpu, decStep, bytesS, boolS, eventsS, intsS, guestsS, vcpusS, rowS, castL, Option.bind_some, Option.map_some, Option.some.injEq, Nat.beq_refl, beq_self_eq_true, Bool.and_self, cond_true, cond_false, eq_self, wrap32]
  
theorem c_exec_Advance : SpecOk EB 60 S_exec_Advance := spec_sig ok_exec_Advance (n := 60) fun ⟨c, by_, ⟨⟩⟩ h hok => a_exec_Advance c by_ (ok_core (okSL_head hok)) (ok_int (okSL_head (okSL_tail hok)))

/-! alu_LessSigned -/

def S_alu_LessSigned : Spec := sig [.i .u32, .i .u32] [.b] (fun (x, y, _) => decide (K.sgn x < K.sgn y))
noncomputable def E_alu_LessSigned : Env := EB.adds []

theorem ok_alu_LessSigned : EnvOk E_alu_LessSigned := okEB.adds (l := _) trivial

theorem t_alu_LessSigned (x : Int) (y : Int) : evF E_alu_LessSigned 60 125 (encArgs [.i .u32, .i .u32] (x, y, ())) = 
  bif (decide ((IntKind.wrap IntKind.i32 x) < (IntKind.wrap IntKind.i32 y))) then
    (Tree.leaf (SV.b true))
  else
    (Tree.leaf (SV.b false)) := by kernel_rfl
theorem a_alu_LessSigned (x : Int) (y : Int) (ok_x : okI .u32 x) (ok_y : okI .u32 y) : (evF E_alu_LessSigned 60 125 (encArgs [.i .u32, .i .u32] (x, y, ()))).ends fun out_ => decO [.b] out_ = some (decide (K.sgn x < K.sgn y)) := by
  rw [t_alu_LessSigned, Tree.ends_holds]
  obtain ⟨x0, x1⟩ := okI_u32 ok_x
  obtain ⟨y0, y1⟩ := okI_u32 ok_y
  have e : ∀ z : Int, 0 ≤ z → z < 4294967296 → IntKind.i32.wrap z = K.sgn z := fun z h0 h1 => by
    unfold K.sgn
    simp only [IntKind.wrap, IntKind.bits, IntKind.signed, Bool.true_and, decide_eq_true_eq, Nat.reduceSub, Int.reducePow, ge_iff_le]
    (repeat' split) <;> omega
  simp only [Tree.holds_loop, Tree.holds_fork, Tree.holds_next, if_true, Tree.holds_cond, Tree.holds_letv, Tree.holds_leaf, Tree.holds_fail, decO, decA, decTup, decMach, decCore, decTrap, decInstr, decPart, decGuest, decConf, decEvent, decVcpu, decStep, bytesS, boolS, eventsS, intsS, guestsS, vcpusS, rowS, castL, Option.bind_some, Option.map_some, Option.some.injEq, Nat.beq_refl, beq_self_eq_true, Bool.and_self, cond_true, cond_false, eq_self, beq_iff_eq, beq_eq_false_iff_ne, bne_iff_ne, bne_eq_false_iff_eq, ne_eq, decide_eq_true_eq, decide_eq_false_iff_not, ble_true, ble_false, inRange_iff, inRange_false, e x x0 x1, e y y0 y1]
  repeat' (first | refine drop_ok ?_ | intro _ | with_reducible apply And.intro)
  all_goals simp_all
  
theorem c_alu_LessSigned : SpecOk EB 125 S_alu_LessSigned := spec_sig ok_alu_LessSigned (n := 60) fun ⟨x, y, ⟨⟩⟩ h hok => a_alu_LessSigned x y (ok_int (okSL_head hok)) (ok_int (okSL_head (okSL_tail hok)))

/-! alu_Eval -/

def S_alu_Eval : Spec := sig [.i .i64, .i .u32, .i .u32] [.i .u32] (fun (op, x, y, _) => K.alu op x y)
noncomputable def E_alu_Eval : Env := EB.adds [(125, S_alu_LessSigned)]

theorem ok_alu_Eval : EnvOk E_alu_Eval := okEB.adds (l := _) ⟨c_alu_LessSigned, trivial⟩

theorem t_alu_Eval (op : Int) (x : Int) (y : Int) : evF E_alu_Eval 60 119 (encArgs [.i .i64, .i .u32, .i .u32] (op, x, y, ())) = 
  bif (BEq.beq op (1 : Int)) then
    (Tree.leaf (SV.v (Value.int IntKind.u32 (IntKind.wrap IntKind.u32 (x + y)))))
  else
    (bif (BEq.beq op (2 : Int)) then
      (Tree.leaf (SV.v (Value.int IntKind.u32 (IntKind.wrap IntKind.u32 (x - y)))))
    else
      (bif (BEq.beq op (3 : Int)) then
        (Tree.leaf (SV.v (Value.int IntKind.u32 (andI IntKind.u32 x y))))
      else
        (bif (BEq.beq op (4 : Int)) then
          (Tree.leaf (SV.v (Value.int IntKind.u32 (orI IntKind.u32 x y))))
        else
          (bif (BEq.beq op (5 : Int)) then
            (Tree.leaf (SV.v (Value.int IntKind.u32 (xorI IntKind.u32 x y))))
          else
            (bif (BEq.beq op (6 : Int)) then
              (Tree.letv (okO [AT.b]) (decide ((K.sgn x) < (K.sgn y))) fun x0 =>
              (bif x0 then
                (Tree.leaf (SV.v (Value.int IntKind.u32 (1 : Int))))
              else
                (Tree.leaf (SV.v (Value.int IntKind.u32 (0 : Int))))))
            else
              (bif (BEq.beq op (7 : Int)) then
                (bif (decide ((0 : Int) ≤ (andI IntKind.u32 y (31 : Int)))) then
                  (Tree.leaf (SV.v (Value.int IntKind.u32 (IntKind.wrap IntKind.u32 (x * ((2 : Int) ^ (if ((Int.toNat (andI IntKind.u32 y (31 : Int))) ≤ 32) then (Int.toNat (andI IntKind.u32 y (31 : Int))) else 32)))))))
                else
                  (Tree.fail))
              else
                (bif (BEq.beq op (8 : Int)) then
                  (bif (decide ((0 : Int) ≤ (andI IntKind.u32 y (31 : Int)))) then
                    (Tree.leaf (SV.v (Value.int IntKind.u32 (Int.fdiv x ((2 : Int) ^ (if ((Int.toNat (andI IntKind.u32 y (31 : Int))) ≤ 32) then (Int.toNat (andI IntKind.u32 y (31 : Int))) else 32))))))
                  else
                    (Tree.fail))
                else
                  (Tree.leaf (SV.v (Value.int IntKind.u32 (0 : Int))))))))))) := by kernel_rfl
theorem a_alu_Eval (op : Int) (x : Int) (y : Int) (ok_op : okI .i64 op) (ok_x : okI .u32 x) (ok_y : okI .u32 y) : (evF E_alu_Eval 60 119 (encArgs [.i .i64, .i .u32, .i .u32] (op, x, y, ()))).ends fun out_ => decO [.i .u32] out_ = some (K.alu op x y) := by
  rw [t_alu_Eval, Tree.ends_holds]
  obtain ⟨x0, x1⟩ := okI_u32 ok_x
  obtain ⟨y0, y1⟩ := okI_u32 ok_y
  have a31 : andI .u32 y 31 = y % 32 := by have := and_low32 5 (by omega) y0 y1; simpa using this
  have hle : (y % 32).toNat ≤ 32 := by omega
  have e7 : x * 2 ^ (y % 32).toNat = x * K.pow (y % 32) := by unfold K.pow; simp
  have e8 : x.fdiv (2 ^ (y % 32).toNat) = x / K.pow (y % 32) := by
    rw [Int.fdiv_eq_ediv_of_nonneg _ (Int.le_of_lt (Int.pow_pos (by omega)))]; unfold K.pow; simp
  simp only [Tree.holds_loop, Tree.holds_fork, Tree.holds_next, if_true, Tree.holds_cond, Tree.holds_letv, Tree.holds_leaf, Tree.holds_fail, decO, decA, decTup, decMach, decCore, decTrap, decInstr, decPart, decGuest, decConf, decEvent, decVcpu, decStep, bytesS, boolS, eventsS, intsS, guestsS, vcpusS, rowS, castL, Option.bind_some, Option.map_some, Option.some.injEq, Nat.beq_refl, beq_self_eq_true, Bool.and_self, cond_true, cond_false, eq_self, beq_iff_eq, beq_eq_false_iff_ne, bne_iff_ne, bne_eq_false_iff_eq, ne_eq, decide_eq_true_eq, decide_eq_false_iff_not, ble_true, ble_false, inRange_iff, inRange_false, wrap32, a31, if_pos hle, e7, e8]
  repeat' (first | refine drop_ok ?_ | intro _ | with_reducible apply And.intro)
  all_goals first | omega | (subst_vars; simp_all [K.alu]; done) | (simp_all [K.alu]; done)
  
theorem c_alu_Eval : SpecOk EB 119 S_alu_Eval := spec_sig ok_alu_Eval (n := 60) fun ⟨op, x, y, ⟨⟩⟩ h hok => a_alu_Eval op x y (ok_int (okSL_head hok)) (ok_int (okSL_head (okSL_tail hok))) (ok_int (okSL_head (okSL_tail (okSL_tail hok))))

/-! alu_BranchTaken -/

def S_alu_BranchTaken : Spec := sig [.i .i64, .i .u32, .i .u32] [.b] (fun (op, x, y, _) => K.taken op x y)
noncomputable def E_alu_BranchTaken : Env := EB.adds [(125, S_alu_LessSigned)]

theorem ok_alu_BranchTaken : EnvOk E_alu_BranchTaken := okEB.adds (l := _) ⟨c_alu_LessSigned, trivial⟩

theorem t_alu_BranchTaken (op : Int) (x : Int) (y : Int) : evF E_alu_BranchTaken 60 117 (encArgs [.i .i64, .i .u32, .i .u32] (op, x, y, ())) = 
  bif (BEq.beq op (15 : Int)) then
    (bif (BEq.beq x y) then
      (Tree.leaf (SV.b true))
    else
      (Tree.leaf (SV.b false)))
  else
    (bif (BEq.beq op (16 : Int)) then
      (bif (bne x y) then
        (Tree.leaf (SV.b true))
      else
        (Tree.leaf (SV.b false)))
    else
      (bif (BEq.beq op (17 : Int)) then
        (Tree.letv (okO [AT.b]) (decide ((K.sgn x) < (K.sgn y))) fun x0 =>
        (bif x0 then
          (Tree.leaf (SV.b true))
        else
          (Tree.leaf (SV.b false))))
      else
        (Tree.leaf (SV.b false)))) := by kernel_rfl
theorem a_alu_BranchTaken (op : Int) (x : Int) (y : Int) (ok_op : okI .i64 op) (ok_x : okI .u32 x) (ok_y : okI .u32 y) : (evF E_alu_BranchTaken 60 117 (encArgs [.i .i64, .i .u32, .i .u32] (op, x, y, ()))).ends fun out_ => decO [.b] out_ = some (K.taken op x y) := by
  rw [t_alu_BranchTaken, Tree.ends_holds]
  simp only [Tree.holds_loop, Tree.holds_fork, Tree.holds_next, if_true, Tree.holds_cond, Tree.holds_letv, Tree.holds_leaf, Tree.holds_fail, decO, decA, decTup, decMach, decCore, decTrap, decInstr, decPart, decGuest, decConf, decEvent, decVcpu, decStep, bytesS, boolS, eventsS, intsS, guestsS, vcpusS, rowS, castL, Option.bind_some, Option.map_some, Option.some.injEq, Nat.beq_refl, beq_self_eq_true, Bool.and_self, cond_true, cond_false, eq_self, beq_iff_eq, beq_eq_false_iff_ne, bne_iff_ne, bne_eq_false_iff_eq, ne_eq, decide_eq_true_eq, decide_eq_false_iff_not, ble_true, ble_false, inRange_iff, inRange_false, K.taken]
  repeat' (first | refine drop_ok ?_ | intro _ | with_reducible apply And.intro)
  all_goals simp_all
  
theorem c_alu_BranchTaken : SpecOk EB 117 S_alu_BranchTaken := spec_sig ok_alu_BranchTaken (n := 60) fun ⟨op, x, y, ⟨⟩⟩ h hok => a_alu_BranchTaken op x y (ok_int (okSL_head hok)) (ok_int (okSL_head (okSL_tail hok))) (ok_int (okSL_head (okSL_tail (okSL_tail hok))))

/-! mem_Store -/

def S_mem_Store : Spec := sig [.rd .u8, .i .u32, .i .i64, .i .u32] [.rd .u8, .b] (fun (m, a, n, v, _) => if K.inR m.length a n = true then (K.st m a n v, true) else (m, false)) (pre := fun (m, a, n, v, _) => decide ((n = 1 ∨ n = 4) ∧ m.length ≤ 1099511627776))
noncomputable def E_mem_Store : Env := EB.adds [(128, S_mem_InRange)]

theorem ok_mem_Store : EnvOk E_mem_Store := okEB.adds (l := _) ⟨c_mem_InRange, trivial⟩
theorem t1_c_mem_Store (m : List Int) (a v : Int) : evF E_mem_Store 60 124 [.rd .u8 m, .v (.int .u32 a), .v (.int .i64 1), .v (.int .u32 v)] = 
  bif (decide (And ((0 : Int) ≤ (1 : Int)) (And ((1 : Int) ≤ (1099511627776 : Int)) ((0 : Int) ≤ (Int.ofNat (List.length m)))))) then
    (Tree.letv (okO [AT.b]) (K.inR (Int.ofNat (List.length m)) a (1 : Int)) fun x0 =>
    (bif x0 then
      (bif (Nat.beq (List.length m) 0) then
        (Tree.fork
          (Tree.fail)
          (bif (Bool.or (Bool.not (Nat.beq (List.length m) 0)) true) then
            (bif (Nat.ble ((0 + (List.length m)) * 1) 140737488355328) then
              (bif (inRange (IntKind.wrap IntKind.i64 ((IntKind.wrap IntKind.i64 a) + (0 : Int))) (List.length m)) then
                (Tree.leaf (SV.tup [(SV.rd ETy.u8 (List.set m (Int.toNat (IntKind.wrap IntKind.i64 ((IntKind.wrap IntKind.i64 a) + (0 : Int)))) (IntKind.wrap IntKind.u8 (Int.fdiv v (1 : Int))))), (SV.b true)]))
              else
                (Tree.fail))
            else
              (Tree.fail))
          else
            (Tree.fail)))
      else
        (bif (Bool.or (Bool.not (Nat.beq (List.length m) 0)) true) then
          (bif (Nat.ble ((0 + (List.length m)) * 1) 140737488355328) then
            (bif (inRange (IntKind.wrap IntKind.i64 ((IntKind.wrap IntKind.i64 a) + (0 : Int))) (List.length m)) then
              (Tree.leaf (SV.tup [(SV.rd ETy.u8 (List.set m (Int.toNat (IntKind.wrap IntKind.i64 ((IntKind.wrap IntKind.i64 a) + (0 : Int)))) (IntKind.wrap IntKind.u8 (Int.fdiv v (1 : Int))))), (SV.b true)]))
            else
              (Tree.fail))
          else
            (Tree.fail))
        else
          (Tree.fail)))
    else
      (Tree.leaf (SV.tup [(SV.rd ETy.u8 m), (SV.b false)]))))
  else
    (Tree.fail) := by kernel_rfl
theorem t4_c_mem_Store (m : List Int) (a v : Int) : evF E_mem_Store 60 124 [.rd .u8 m, .v (.int .u32 a), .v (.int .i64 4), .v (.int .u32 v)] = 
  bif (decide (And ((0 : Int) ≤ (4 : Int)) (And ((4 : Int) ≤ (1099511627776 : Int)) ((0 : Int) ≤ (Int.ofNat (List.length m)))))) then
    (Tree.letv (okO [AT.b]) (K.inR (Int.ofNat (List.length m)) a (4 : Int)) fun x0 =>
    (bif x0 then
      (bif (Nat.beq (List.length m) 0) then
        (Tree.fork
          (Tree.fail)
          (bif (Bool.or (Bool.not (Nat.beq (List.length m) 0)) true) then
            (bif (Nat.ble ((0 + (List.length m)) * 1) 140737488355328) then
              (bif (inRange (IntKind.wrap IntKind.i64 ((IntKind.wrap IntKind.i64 a) + (0 : Int))) (List.length m)) then
                (bif (inRange (IntKind.wrap IntKind.i64 ((IntKind.wrap IntKind.i64 a) + (1 : Int))) (List.length (List.set m (Int.toNat (IntKind.wrap IntKind.i64 ((IntKind.wrap IntKind.i64 a) + (0 : Int)))) (IntKind.wrap IntKind.u8 (Int.fdiv v (1 : Int)))))) then
                  (bif (inRange (IntKind.wrap IntKind.i64 ((IntKind.wrap IntKind.i64 a) + (2 : Int))) (List.length (List.set (List.set m (Int.toNat (IntKind.wrap IntKind.i64 ((IntKind.wrap IntKind.i64 a) + (0 : Int)))) (IntKind.wrap IntKind.u8 (Int.fdiv v (1 : Int)))) (Int.toNat (IntKind.wrap IntKind.i64 ((IntKind.wrap IntKind.i64 a) + (1 : Int)))) (IntKind.wrap IntKind.u8 (Int.fdiv v (256 : Int)))))) then
                    (bif (inRange (IntKind.wrap IntKind.i64 ((IntKind.wrap IntKind.i64 a) + (3 : Int))) (List.length (List.set (List.set (List.set m (Int.toNat (IntKind.wrap IntKind.i64 ((IntKind.wrap IntKind.i64 a) + (0 : Int)))) (IntKind.wrap IntKind.u8 (Int.fdiv v (1 : Int)))) (Int.toNat (IntKind.wrap IntKind.i64 ((IntKind.wrap IntKind.i64 a) + (1 : Int)))) (IntKind.wrap IntKind.u8 (Int.fdiv v (256 : Int)))) (Int.toNat (IntKind.wrap IntKind.i64 ((IntKind.wrap IntKind.i64 a) + (2 : Int)))) (IntKind.wrap IntKind.u8 (Int.fdiv v (65536 : Int)))))) then
                      (Tree.leaf (SV.tup [(SV.rd ETy.u8 (List.set (List.set (List.set (List.set m (Int.toNat (IntKind.wrap IntKind.i64 ((IntKind.wrap IntKind.i64 a) + (0 : Int)))) (IntKind.wrap IntKind.u8 (Int.fdiv v (1 : Int)))) (Int.toNat (IntKind.wrap IntKind.i64 ((IntKind.wrap IntKind.i64 a) + (1 : Int)))) (IntKind.wrap IntKind.u8 (Int.fdiv v (256 : Int)))) (Int.toNat (IntKind.wrap IntKind.i64 ((IntKind.wrap IntKind.i64 a) + (2 : Int)))) (IntKind.wrap IntKind.u8 (Int.fdiv v (65536 : Int)))) (Int.toNat (IntKind.wrap IntKind.i64 ((IntKind.wrap IntKind.i64 a) + (3 : Int)))) (IntKind.wrap IntKind.u8 (Int.fdiv v (16777216 : Int))))), (SV.b true)]))
                    else
                      (Tree.fail))
                  else
                    (Tree.fail))
                else
                  (Tree.fail))
              else
                (Tree.fail))
            else
              (Tree.fail))
          else
            (Tree.fail)))
      else
        (bif (Bool.or (Bool.not (Nat.beq (List.length m) 0)) true) then
          (bif (Nat.ble ((0 + (List.length m)) * 1) 140737488355328) then
            (bif (inRange (IntKind.wrap IntKind.i64 ((IntKind.wrap IntKind.i64 a) + (0 : Int))) (List.length m)) then
              (bif (inRange (IntKind.wrap IntKind.i64 ((IntKind.wrap IntKind.i64 a) + (1 : Int))) (List.length (List.set m (Int.toNat (IntKind.wrap IntKind.i64 ((IntKind.wrap IntKind.i64 a) + (0 : Int)))) (IntKind.wrap IntKind.u8 (Int.fdiv v (1 : Int)))))) then
                (bif (inRange (IntKind.wrap IntKind.i64 ((IntKind.wrap IntKind.i64 a) + (2 : Int))) (List.length (List.set (List.set m (Int.toNat (IntKind.wrap IntKind.i64 ((IntKind.wrap IntKind.i64 a) + (0 : Int)))) (IntKind.wrap IntKind.u8 (Int.fdiv v (1 : Int)))) (Int.toNat (IntKind.wrap IntKind.i64 ((IntKind.wrap IntKind.i64 a) + (1 : Int)))) (IntKind.wrap IntKind.u8 (Int.fdiv v (256 : Int)))))) then
                  (bif (inRange (IntKind.wrap IntKind.i64 ((IntKind.wrap IntKind.i64 a) + (3 : Int))) (List.length (List.set (List.set (List.set m (Int.toNat (IntKind.wrap IntKind.i64 ((IntKind.wrap IntKind.i64 a) + (0 : Int)))) (IntKind.wrap IntKind.u8 (Int.fdiv v (1 : Int)))) (Int.toNat (IntKind.wrap IntKind.i64 ((IntKind.wrap IntKind.i64 a) + (1 : Int)))) (IntKind.wrap IntKind.u8 (Int.fdiv v (256 : Int)))) (Int.toNat (IntKind.wrap IntKind.i64 ((IntKind.wrap IntKind.i64 a) + (2 : Int)))) (IntKind.wrap IntKind.u8 (Int.fdiv v (65536 : Int)))))) then
                    (Tree.leaf (SV.tup [(SV.rd ETy.u8 (List.set (List.set (List.set (List.set m (Int.toNat (IntKind.wrap IntKind.i64 ((IntKind.wrap IntKind.i64 a) + (0 : Int)))) (IntKind.wrap IntKind.u8 (Int.fdiv v (1 : Int)))) (Int.toNat (IntKind.wrap IntKind.i64 ((IntKind.wrap IntKind.i64 a) + (1 : Int)))) (IntKind.wrap IntKind.u8 (Int.fdiv v (256 : Int)))) (Int.toNat (IntKind.wrap IntKind.i64 ((IntKind.wrap IntKind.i64 a) + (2 : Int)))) (IntKind.wrap IntKind.u8 (Int.fdiv v (65536 : Int)))) (Int.toNat (IntKind.wrap IntKind.i64 ((IntKind.wrap IntKind.i64 a) + (3 : Int)))) (IntKind.wrap IntKind.u8 (Int.fdiv v (16777216 : Int))))), (SV.b true)]))
                  else
                    (Tree.fail))
                else
                  (Tree.fail))
              else
                (Tree.fail))
            else
              (Tree.fail))
          else
            (Tree.fail))
        else
          (Tree.fail)))
    else
      (Tree.leaf (SV.tup [(SV.rd ETy.u8 m), (SV.b false)]))))
  else
    (Tree.fail) := by kernel_rfl
theorem a1_c_mem_Store (m : List Int) (a v : Int) (hm : m.length ≤ 1099511627776) (ok_m : okBytes m) (ok_a : okI .u32 a) (ok_v : okI .u32 v) : (evF E_mem_Store 60 124 [.rd .u8 m, .v (.int .u32 a), .v (.int .i64 1), .v (.int .u32 v)]).ends fun out_ => decO [.rd .u8, .b] out_ = some (if K.inR m.length a 1 = true then (K.st m a 1 v, true) else (m, false)) := by
  rw [t1_c_mem_Store, Tree.ends_holds]
  obtain ⟨a0, a1⟩ := okI_u32 ok_a
  obtain ⟨v0, v1⟩ := okI_u32 ok_v
  have ew : IntKind.i64.wrap a = a := wrapI64 (by omega) (by omega)
  have i0 : IntKind.i64.wrap (a + 0) = a := by rw [wrapI64 (by omega) (by omega)]; omega
  have s1 : K.inR m.length a 1 = true → K.st m a 1 v = m.set a.toNat (v % 256) := fun _ => rfl
  have hr : K.inR m.length a 1 = true ↔ a + 1 ≤ (m.length : Int) := by simp [K.inR]
  have d0 : v.fdiv 1 = v := by simp
  have hz : m.length.beq 0 = true → m.length = 0 := fun h => Nat.eq_of_beq_eq_true h
  simp only [Tree.holds_loop, Tree.holds_fork, Tree.holds_next, if_true, Tree.holds_cond, Tree.holds_letv, Tree.holds_leaf, Tree.holds_fail, decO, decA, decTup, decMach, decCore, decTrap, decInstr, decPart, decGuest, decConf, decEvent, decVcpu, decStep, bytesS, boolS, eventsS, intsS, guestsS, vcpusS, rowS, castL, Option.bind_some, Option.map_some, Option.some.injEq, Nat.beq_refl, beq_self_eq_true, Bool.and_self, cond_true, cond_false, eq_self, beq_iff_eq, beq_eq_false_iff_ne, bne_iff_ne, bne_eq_false_iff_eq, ne_eq, decide_eq_true_eq, decide_eq_false_iff_not, ble_true, ble_false, inRange_iff, inRange_false, Int.ofNat_eq_natCast, ew, i0, wrap8, d0]
  repeat' (first | refine drop_ok ?_ | intro _ | with_reducible apply And.intro)
  all_goals first | (rw [if_pos (by assumption)]; rfl) | (rw [if_neg (by simp_all)]; done) | omega | (exfalso; have := hr.1 (by assumption); omega) | (exfalso; have q := hr.1 (by assumption); have := hz (by assumption); omega) | (rename_i z; simp at z; done)
theorem a4_c_mem_Store (m : List Int) (a v : Int) (hm : m.length ≤ 1099511627776) (ok_m : okBytes m) (ok_a : okI .u32 a) (ok_v : okI .u32 v) : (evF E_mem_Store 60 124 [.rd .u8 m, .v (.int .u32 a), .v (.int .i64 4), .v (.int .u32 v)]).ends fun out_ => decO [.rd .u8, .b] out_ = some (if K.inR m.length a 4 = true then (K.st m a 4 v, true) else (m, false)) := by
  rw [t4_c_mem_Store, Tree.ends_holds]
  obtain ⟨a0, a1⟩ := okI_u32 ok_a
  obtain ⟨v0, v1⟩ := okI_u32 ok_v
  have ew : IntKind.i64.wrap a = a := wrapI64 (by omega) (by omega)
  have i0 : IntKind.i64.wrap (a + 0) = a := by rw [wrapI64 (by omega) (by omega)]; omega
  have i1 : IntKind.i64.wrap (a + 1) = a + 1 := wrapI64 (by omega) (by omega)
  have i2 : IntKind.i64.wrap (a + 2) = a + 2 := wrapI64 (by omega) (by omega)
  have i3 : IntKind.i64.wrap (a + 3) = a + 3 := wrapI64 (by omega) (by omega)
  have n1 : (a + 1).toNat = a.toNat + 1 := by omega
  have n2 : (a + 2).toNat = a.toNat + 2 := by omega
  have n3 : (a + 3).toNat = a.toNat + 3 := by omega
  have hr : K.inR m.length a 4 = true ↔ a + 4 ≤ (m.length : Int) := by simp [K.inR]
  have d0 : v.fdiv 1 = v := by simp
  have hz : m.length.beq 0 = true → m.length = 0 := fun h => Nat.eq_of_beq_eq_true h
  have d1 : v.fdiv 256 = v / 256 := Int.fdiv_eq_ediv_of_nonneg _ (by omega)
  have d2 : v.fdiv 65536 = v / 65536 := Int.fdiv_eq_ediv_of_nonneg _ (by omega)
  have d3 : v.fdiv 16777216 = v / 16777216 := Int.fdiv_eq_ediv_of_nonneg _ (by omega)
  simp only [Tree.holds_loop, Tree.holds_fork, Tree.holds_next, if_true, Tree.holds_cond, Tree.holds_letv, Tree.holds_leaf, Tree.holds_fail, decO, decA, decTup, decMach, decCore, decTrap, decInstr, decPart, decGuest, decConf, decEvent, decVcpu, decStep, bytesS, boolS, eventsS, intsS, guestsS, vcpusS, rowS, castL, Option.bind_some, Option.map_some, Option.some.injEq, Nat.beq_refl, beq_self_eq_true, Bool.and_self, cond_true, cond_false, eq_self, beq_iff_eq, beq_eq_false_iff_ne, bne_iff_ne, bne_eq_false_iff_eq, ne_eq, decide_eq_true_eq, decide_eq_false_iff_not, ble_true, ble_false, inRange_iff, inRange_false, Int.ofNat_eq_natCast, ew, i0, i1, i2, i3, n1, n2, n3, wrap8, d0, d1, d2, d3, List.length_set]
  repeat' (first | refine drop_ok ?_ | intro _ | with_reducible apply And.intro)
  all_goals first | (rw [if_pos (by assumption)]; rfl) | (rw [if_neg (by simp_all)]; done) | omega | (exfalso; have := hr.1 (by assumption); omega) | (exfalso; have q := hr.1 (by assumption); have := hz (by assumption); omega) | (rename_i z; simp at z; done) | trace_state
theorem c_mem_Store : SpecOk EB 124 S_mem_Store := spec_sig ok_mem_Store (n := 60) fun ⟨m, a, n, v, ⟨⟩⟩ h hok => by
  have h := of_decide_eq_true h
  have o1 := ok_bytes (okSL_head hok)
  have o2 := ok_int (okSL_head (okSL_tail hok))
  have o3 := ok_int (okSL_head (okSL_tail (okSL_tail (okSL_tail hok))))
  rcases h with ⟨h | h, hm⟩
  · have h : n = 1 := h
    subst h; exact a1_c_mem_Store m a v hm o1 o2 o3
  · have h : n = 4 := h
    subst h; exact a4_c_mem_Store m a v hm o1 o2 o3


/-! fetch_Store -/

def S_fetch_Store : Spec := sig [.mach, .i .u32, .i .i64, .i .u32] [.mach, .trap] (fun (m, a, n, v, _) => K.store m a n v) (pre := fun (m, a, n, v, _) => decide ((n = 1 ∨ n = 4) ∧ m.mem.length ≤ 1099511627776))
noncomputable def E_fetch_Store : Env := EB_2.adds [(122, S_fetch_Resolve), (124, S_mem_Store)]

theorem ok_fetch_Store : EnvOk E_fetch_Store := okEB_2.adds (l := _) ⟨c_fetch_Resolve, (up_to_2 c_mem_Store), trivial⟩

theorem t_fetch_Store (m : PMach) (a : Int) (n : Int) (v : Int) : evF E_fetch_Store 60 116 (encArgs [.mach, .i .u32, .i .i64, .i .u32] (m, a, n, v, ())) = 
  bif (decide (Or (n = (1 : Int)) (n = (4 : Int)))) then
    (Tree.letv (okO [(AT.i IntKind.u32), AT.trap]) (K.cell m a n) fun x0 =>
    (bif (Bool.not (Bool.and (BEq.beq x0.snd.cause (0 : Int)) (Bool.and (BEq.beq x0.snd.tval (0 : Int)) true))) then
      (Tree.leaf (SV.tup [(SV.agg [(SV.arr IntKind.u32 16 m.core.regs), (SV.v (Value.int IntKind.u32 m.core.pc)), (SV.arr IntKind.u32 12 m.core.csr), (SV.rd ETy.u8 m.mem), (SV.v (Value.int IntKind.u64 m.time)), (SV.rd ETy.u8 m.out), (SV.v (Value.bool m.halted))]), (SV.agg [(SV.v (Value.int IntKind.i64 x0.snd.cause)), (SV.v (Value.int IntKind.u32 x0.snd.tval))])]))
    else
      (bif (decide (And (Or (n = (1 : Int)) (n = (4 : Int))) ((List.length m.mem) ≤ 1099511627776))) then
        (Tree.letv (okO [(AT.rd ETy.u8), AT.b]) (if ((K.inR (Int.ofNat (List.length m.mem)) x0.fst n) = true) then ((K.st m.mem x0.fst n v), true) else (m.mem, false)) fun x1 =>
        (bif x1.snd then
          (Tree.leaf (SV.tup [(SV.agg [(SV.arr IntKind.u32 16 m.core.regs), (SV.v (Value.int IntKind.u32 m.core.pc)), (SV.arr IntKind.u32 12 m.core.csr), (SV.rd ETy.u8 x1.fst), (SV.v (Value.int IntKind.u64 m.time)), (SV.rd ETy.u8 m.out), (SV.v (Value.bool m.halted))]), (SV.agg [(SV.v (Value.int IntKind.i64 (0 : Int))), (SV.v (Value.int IntKind.u32 (0 : Int)))])]))
        else
          (Tree.leaf (SV.tup [(SV.agg [(SV.arr IntKind.u32 16 m.core.regs), (SV.v (Value.int IntKind.u32 m.core.pc)), (SV.arr IntKind.u32 12 m.core.csr), (SV.rd ETy.u8 x1.fst), (SV.v (Value.int IntKind.u64 m.time)), (SV.rd ETy.u8 m.out), (SV.v (Value.bool m.halted))]), (SV.agg [(SV.v (Value.int IntKind.i64 (0 : Int))), (SV.v (Value.int IntKind.u32 (0 : Int)))])]))))
      else
        (Tree.fail))))
  else
    (Tree.fail) := by kernel_rfl
theorem a_fetch_Store (m : PMach) (a : Int) (n : Int) (v : Int) (hpre : (n = 1 ∨ n = 4) ∧ m.mem.length ≤ 1099511627776) (ok_m : okMach m) (ok_a : okI .u32 a) (ok_n : okI .i64 n) (ok_v : okI .u32 v) : (evF E_fetch_Store 60 116 (encArgs [.mach, .i .u32, .i .i64, .i .u32] (m, a, n, v, ()))).ends fun out_ => decO [.mach, .trap] out_ = some (K.store m a n v) := by
  rw [t_fetch_Store, Tree.ends_holds]
  obtain ⟨a0, a1⟩ := okI_u32 ok_a
  have hr := fun h => cell_range ok_m.core (a := a) (n := n) a0 (by omega) h
  simp only [Tree.holds_loop, Tree.holds_fork, Tree.holds_next, if_true, Tree.holds_cond, Tree.holds_letv, Tree.holds_leaf, Tree.holds_fail, decO, decA, decTup, decMach, decCore, decTrap, decInstr, decPart, decGuest, decConf, decEvent, decVcpu, decStep, bytesS, boolS, eventsS, intsS, guestsS, vcpusS, rowS, castL, Option.bind_some, Option.map_some, Option.some.injEq, Nat.beq_refl, beq_self_eq_true, Bool.and_self, cond_true, cond_false, eq_self, beq_iff_eq, beq_eq_false_iff_ne, bne_iff_ne, bne_eq_false_iff_eq, ne_eq, decide_eq_true_eq, decide_eq_false_iff_not, ble_true, ble_false, inRange_iff, inRange_false, Int.ofNat_eq_natCast, K.store]
  by_cases h : (K.cell m a n).2.cause = 0
  · have ht := cell_zero h
    have hi : K.inR m.mem.length (K.cell m a n).1 n = true := by have := hr h; simp only [K.inR, decide_eq_true_eq]; omega
    simp only [h, ht, hi, if_true]
    simp [hpre]
  · simp [h, hpre]
  
theorem c_fetch_Store : SpecOk EB_2 116 S_fetch_Store := spec_sig ok_fetch_Store (n := 60) fun ⟨m, a, n, v, ⟨⟩⟩ h hok => a_fetch_Store m a n v (of_decide_eq_true h) (ok_mach (okSL_head hok)) (ok_int (okSL_head (okSL_tail hok))) (ok_int (okSL_head (okSL_tail (okSL_tail hok)))) (ok_int (okSL_head (okSL_tail (okSL_tail (okSL_tail hok)))))

/-! exec_at -/

def S_exec_at : Spec := sig [.pstep] [.i .u32] (fun (s, _) => (s.x + s.i.imm % 4294967296) % 4294967296)
noncomputable def E_exec_at : Env := EB.adds []

theorem ok_exec_at : EnvOk E_exec_at := okEB.adds (l := _) trivial

theorem t_exec_at (s : PStep) : evF E_exec_at 60 114 (encArgs [.pstep] (s, ())) = 
  Tree.leaf (SV.v (Value.int IntKind.u32 (IntKind.wrap IntKind.u32 (s.x + (IntKind.wrap IntKind.u32 s.i.imm))))) := by kernel_rfl
theorem a_exec_at (s : PStep) (ok_s : okS (encA (.pstep) s)) : (evF E_exec_at 60 114 (encArgs [.pstep] (s, ()))).ends fun out_ => decO [.i .u32] out_ = some ((s.x + s.i.imm % 4294967296) % 4294967296) := by
  rw [t_exec_at, Tree.ends_holds]
  simp only [Tree.holds_loop, Tree.holds_fork, Tree.holds_next, if_true, Tree.holds_cond, Tree.holds_letv, Tree.holds_leaf, Tree.holds_fail, decO, decA, decTup, decMach, decCore, decTrap, decInstr, decPart, decGuest, decConf, decEvent, decVcpu, decStep, bytesS, boolS, eventsS, intsS, guestsS, vcpusS, rowS, castL, Option.bind_some, Option.map_some, Option.some.injEq, Nat.beq_refl, beq_self_eq_true, Bool.and_self, cond_true, cond_false, eq_self, wrap32]
  
theorem c_exec_at : SpecOk EB 114 S_exec_at := spec_sig ok_exec_at (n := 60) fun ⟨s, ⟨⟩⟩ h hok => a_exec_at s (okSL_head hok)

/-! exec_size -/

def S_exec_size : Spec := sig [.pstep] [.i .i64] (fun (s, _) => if s.i.op = 13 ∨ s.i.op = 14 then 1 else 4)
noncomputable def E_exec_size : Env := EB.adds []

theorem ok_exec_size : EnvOk E_exec_size := okEB.adds (l := _) trivial

theorem t_exec_size (s : PStep) : evF E_exec_size 60 115 (encArgs [.pstep] (s, ())) = 
  bif (BEq.beq s.i.op (13 : Int)) then
    (Tree.leaf (SV.v (Value.int IntKind.i64 (1 : Int))))
  else
    (bif (BEq.beq s.i.op (14 : Int)) then
      (Tree.leaf (SV.v (Value.int IntKind.i64 (1 : Int))))
    else
      (Tree.leaf (SV.v (Value.int IntKind.i64 (4 : Int))))) := by kernel_rfl
theorem a_exec_size (s : PStep) (ok_s : okS (encA (.pstep) s)) : (evF E_exec_size 60 115 (encArgs [.pstep] (s, ()))).ends fun out_ => decO [.i .i64] out_ = some (if s.i.op = 13 ∨ s.i.op = 14 then 1 else 4) := by
  rw [t_exec_size, Tree.ends_holds]
  simp only [Tree.holds_loop, Tree.holds_fork, Tree.holds_next, if_true, Tree.holds_cond, Tree.holds_letv, Tree.holds_leaf, Tree.holds_fail, decO, decA, decTup, decMach, decCore, decTrap, decInstr, decPart, decGuest, decConf, decEvent, decVcpu, decStep, bytesS, boolS, eventsS, intsS, guestsS, vcpusS, rowS, castL, Option.bind_some, Option.map_some, Option.some.injEq, Nat.beq_refl, beq_self_eq_true, Bool.and_self, cond_true, cond_false, eq_self, beq_iff_eq, beq_eq_false_iff_ne, bne_iff_ne, bne_eq_false_iff_eq, ne_eq, decide_eq_true_eq, decide_eq_false_iff_not, ble_true, ble_false, inRange_iff, inRange_false]
  repeat' (first | refine drop_ok ?_ | intro _ | with_reducible apply And.intro)
  all_goals first | (rw [if_pos (by omega)]; done) | (rw [if_neg (by omega)]; done)
  
theorem c_exec_size : SpecOk EB 115 S_exec_size := spec_sig ok_exec_size (n := 60) fun ⟨s, ⟨⟩⟩ h hok => a_exec_size s (okSL_head hok)

/-! exec_far -/

def S_exec_far : Spec := sig [.pstep] [.i .u32] (fun (s, _) => 4 * (s.i.imm % 4294967296) % 4294967296)
noncomputable def E_exec_far : Env := EB.adds []

theorem ok_exec_far : EnvOk E_exec_far := okEB.adds (l := _) trivial

theorem t_exec_far (s : PStep) : evF E_exec_far 60 118 (encArgs [.pstep] (s, ())) = 
  Tree.leaf (SV.v (Value.int IntKind.u32 (IntKind.wrap IntKind.u32 ((4 : Int) * (IntKind.wrap IntKind.u32 s.i.imm))))) := by kernel_rfl
theorem a_exec_far (s : PStep) (ok_s : okS (encA (.pstep) s)) : (evF E_exec_far 60 118 (encArgs [.pstep] (s, ()))).ends fun out_ => decO [.i .u32] out_ = some (4 * (s.i.imm % 4294967296) % 4294967296) := by
  rw [t_exec_far, Tree.ends_holds]
  simp only [Tree.holds_loop, Tree.holds_fork, Tree.holds_next, if_true, Tree.holds_cond, Tree.holds_letv, Tree.holds_leaf, Tree.holds_fail, decO, decA, decTup, decMach, decCore, decTrap, decInstr, decPart, decGuest, decConf, decEvent, decVcpu, decStep, bytesS, boolS, eventsS, intsS, guestsS, vcpusS, rowS, castL, Option.bind_some, Option.map_some, Option.some.injEq, Nat.beq_refl, beq_self_eq_true, Bool.and_self, cond_true, cond_false, eq_self, wrap32]
  
theorem c_exec_far : SpecOk EB 118 S_exec_far := spec_sig ok_exec_far (n := 60) fun ⟨s, ⟨⟩⟩ h hok => a_exec_far s (okSL_head hok)

/-! exec_Execute -/

def S_exec_Execute : Spec := sig [.mach, .instr] [.mach, .trap] (fun (m, i, _) => K.exec m i) (pre := fun (m, i, _) => decide (1 ≤ i.op ∧ i.op ≤ 20 ∧ m.mem.length ≤ 1099511627776))
noncomputable def E_exec_Execute : Env := EB_1_2.adds [(55, S_regs_Get), (57, S_regs_Set), (60, S_exec_Advance), (119, S_alu_Eval), (117, S_alu_BranchTaken), (112, S_fetch_Load), (116, S_fetch_Store), (84, S_isa_FormatOf), (114, S_exec_at), (115, S_exec_size), (118, S_exec_far)]

theorem ok_exec_Execute : EnvOk E_exec_Execute := okEB_1_2.adds (l := _) ⟨(up_to_1_2 c_regs_Get), (up_to_1_2 c_regs_Set), (up_to_1_2 c_exec_Advance), (up_to_1_2 c_alu_Eval), (up_to_1_2 c_alu_BranchTaken), (up_2_to_1_2 c_fetch_Load), (up_2_to_1_2 c_fetch_Store), (up_1_to_1_2 c_isa_FormatOf), (up_to_1_2 c_exec_at), (up_to_1_2 c_exec_size), (up_to_1_2 c_exec_far), trivial⟩

theorem t_exec_Execute (m : PMach) (i : PInstr) : evF E_exec_Execute 60 82 (encArgs [.mach, .instr] (m, i, ())) = 
  Tree.letv (okO [(AT.i IntKind.u32)]) (K.get m.core.regs i.ra) fun x0 =>
  (Tree.letv (okO [(AT.i IntKind.u32)]) (K.get m.core.regs i.rb) fun x1 =>
  (Tree.letv (okO [(AT.i IntKind.u32)]) (K.get m.core.regs i.rd) fun x2 =>
  (bif (BEq.beq i.op (9 : Int)) then
    (Tree.letv (okO [(AT.i IntKind.u32)]) ((x0 + (i.imm % (4294967296 : Int))) % (4294967296 : Int)) fun x3 =>
    (Tree.letv (okO [(AT.a IntKind.u32 16)]) (K.put m.core.regs i.rd x3) fun x4 =>
    (Tree.letv (okO [AT.core]) (PCore.mk x4 ((m.core.pc + (4 : Int)) % (4294967296 : Int)) m.core.csr) fun x5 =>
    (Tree.leaf (SV.tup [(SV.agg [(SV.arr IntKind.u32 16 x5.regs), (SV.v (Value.int IntKind.u32 x5.pc)), (SV.arr IntKind.u32 12 x5.csr), (SV.rd ETy.u8 m.mem), (SV.v (Value.int IntKind.u64 m.time)), (SV.rd ETy.u8 m.out), (SV.v (Value.bool m.halted))]), (SV.agg [(SV.v (Value.int IntKind.i64 (0 : Int))), (SV.v (Value.int IntKind.u32 (0 : Int)))])])))))
  else
    (bif (BEq.beq i.op (10 : Int)) then
      (Tree.letv (okO [(AT.a IntKind.u32 16)]) (K.put m.core.regs i.rd (IntKind.wrap IntKind.u32 ((IntKind.wrap IntKind.u32 i.imm) * (16384 : Int)))) fun x3 =>
      (Tree.letv (okO [AT.core]) (PCore.mk x3 ((m.core.pc + (4 : Int)) % (4294967296 : Int)) m.core.csr) fun x4 =>
      (Tree.leaf (SV.tup [(SV.agg [(SV.arr IntKind.u32 16 x4.regs), (SV.v (Value.int IntKind.u32 x4.pc)), (SV.arr IntKind.u32 12 x4.csr), (SV.rd ETy.u8 m.mem), (SV.v (Value.int IntKind.u64 m.time)), (SV.rd ETy.u8 m.out), (SV.v (Value.bool m.halted))]), (SV.agg [(SV.v (Value.int IntKind.i64 (0 : Int))), (SV.v (Value.int IntKind.u32 (0 : Int)))])]))))
    else
      (bif (BEq.beq i.op (11 : Int)) then
        (Tree.letv (okO [(AT.i IntKind.u32)]) ((x0 + (i.imm % (4294967296 : Int))) % (4294967296 : Int)) fun x3 =>
        (Tree.letv (okO [(AT.i IntKind.i64)]) (if (Or (i.op = (13 : Int)) (i.op = (14 : Int))) then (1 : Int) else (4 : Int)) fun x4 =>
        (bif (decide (Or (x4 = (1 : Int)) (x4 = (4 : Int)))) then
          (Tree.letv (okO [(AT.i IntKind.u32), AT.trap]) (K.load m x3 x4) fun x5 =>
          (bif (BEq.beq x5.snd.cause (0 : Int)) then
            (Tree.letv (okO [(AT.a IntKind.u32 16)]) (K.put m.core.regs i.rd x5.fst) fun x6 =>
            (Tree.letv (okO [AT.core]) (PCore.mk x6 ((m.core.pc + (4 : Int)) % (4294967296 : Int)) m.core.csr) fun x7 =>
            (Tree.leaf (SV.tup [(SV.agg [(SV.arr IntKind.u32 16 x7.regs), (SV.v (Value.int IntKind.u32 x7.pc)), (SV.arr IntKind.u32 12 x7.csr), (SV.rd ETy.u8 m.mem), (SV.v (Value.int IntKind.u64 m.time)), (SV.rd ETy.u8 m.out), (SV.v (Value.bool m.halted))]), (SV.agg [(SV.v (Value.int IntKind.i64 x5.snd.cause)), (SV.v (Value.int IntKind.u32 x5.snd.tval))])]))))
          else
            (Tree.leaf (SV.tup [(SV.agg [(SV.arr IntKind.u32 16 m.core.regs), (SV.v (Value.int IntKind.u32 m.core.pc)), (SV.arr IntKind.u32 12 m.core.csr), (SV.rd ETy.u8 m.mem), (SV.v (Value.int IntKind.u64 m.time)), (SV.rd ETy.u8 m.out), (SV.v (Value.bool m.halted))]), (SV.agg [(SV.v (Value.int IntKind.i64 x5.snd.cause)), (SV.v (Value.int IntKind.u32 x5.snd.tval))])]))))
        else
          (Tree.fail))))
      else
        (bif (BEq.beq i.op (13 : Int)) then
          (Tree.letv (okO [(AT.i IntKind.u32)]) ((x0 + (i.imm % (4294967296 : Int))) % (4294967296 : Int)) fun x3 =>
          (Tree.letv (okO [(AT.i IntKind.i64)]) (if (Or (i.op = (13 : Int)) (i.op = (14 : Int))) then (1 : Int) else (4 : Int)) fun x4 =>
          (bif (decide (Or (x4 = (1 : Int)) (x4 = (4 : Int)))) then
            (Tree.letv (okO [(AT.i IntKind.u32), AT.trap]) (K.load m x3 x4) fun x5 =>
            (bif (BEq.beq x5.snd.cause (0 : Int)) then
              (Tree.letv (okO [(AT.a IntKind.u32 16)]) (K.put m.core.regs i.rd x5.fst) fun x6 =>
              (Tree.letv (okO [AT.core]) (PCore.mk x6 ((m.core.pc + (4 : Int)) % (4294967296 : Int)) m.core.csr) fun x7 =>
              (Tree.leaf (SV.tup [(SV.agg [(SV.arr IntKind.u32 16 x7.regs), (SV.v (Value.int IntKind.u32 x7.pc)), (SV.arr IntKind.u32 12 x7.csr), (SV.rd ETy.u8 m.mem), (SV.v (Value.int IntKind.u64 m.time)), (SV.rd ETy.u8 m.out), (SV.v (Value.bool m.halted))]), (SV.agg [(SV.v (Value.int IntKind.i64 x5.snd.cause)), (SV.v (Value.int IntKind.u32 x5.snd.tval))])]))))
            else
              (Tree.leaf (SV.tup [(SV.agg [(SV.arr IntKind.u32 16 m.core.regs), (SV.v (Value.int IntKind.u32 m.core.pc)), (SV.arr IntKind.u32 12 m.core.csr), (SV.rd ETy.u8 m.mem), (SV.v (Value.int IntKind.u64 m.time)), (SV.rd ETy.u8 m.out), (SV.v (Value.bool m.halted))]), (SV.agg [(SV.v (Value.int IntKind.i64 x5.snd.cause)), (SV.v (Value.int IntKind.u32 x5.snd.tval))])]))))
          else
            (Tree.fail))))
        else
          (bif (BEq.beq i.op (12 : Int)) then
            (Tree.letv (okO [(AT.i IntKind.u32)]) ((x0 + (i.imm % (4294967296 : Int))) % (4294967296 : Int)) fun x3 =>
            (Tree.letv (okO [(AT.i IntKind.i64)]) (if (Or (i.op = (13 : Int)) (i.op = (14 : Int))) then (1 : Int) else (4 : Int)) fun x4 =>
            (bif (decide (And (Or (x4 = (1 : Int)) (x4 = (4 : Int))) ((List.length m.mem) ≤ 1099511627776))) then
              (Tree.letv (okO [AT.mach, AT.trap]) (K.store m x3 x4 x2) fun x5 =>
              (bif (BEq.beq x5.snd.cause (0 : Int)) then
                (Tree.letv (okO [AT.core]) (PCore.mk x5.fst.core.regs ((x5.fst.core.pc + (4 : Int)) % (4294967296 : Int)) x5.fst.core.csr) fun x6 =>
                (Tree.leaf (SV.tup [(SV.agg [(SV.arr IntKind.u32 16 x6.regs), (SV.v (Value.int IntKind.u32 x6.pc)), (SV.arr IntKind.u32 12 x6.csr), (SV.rd ETy.u8 x5.fst.mem), (SV.v (Value.int IntKind.u64 x5.fst.time)), (SV.rd ETy.u8 x5.fst.out), (SV.v (Value.bool x5.fst.halted))]), (SV.agg [(SV.v (Value.int IntKind.i64 x5.snd.cause)), (SV.v (Value.int IntKind.u32 x5.snd.tval))])])))
              else
                (Tree.leaf (SV.tup [(SV.agg [(SV.arr IntKind.u32 16 m.core.regs), (SV.v (Value.int IntKind.u32 m.core.pc)), (SV.arr IntKind.u32 12 m.core.csr), (SV.rd ETy.u8 m.mem), (SV.v (Value.int IntKind.u64 m.time)), (SV.rd ETy.u8 m.out), (SV.v (Value.bool m.halted))]), (SV.agg [(SV.v (Value.int IntKind.i64 x5.snd.cause)), (SV.v (Value.int IntKind.u32 x5.snd.tval))])]))))
            else
              (Tree.fail))))
          else
            (bif (BEq.beq i.op (14 : Int)) then
              (Tree.letv (okO [(AT.i IntKind.u32)]) ((x0 + (i.imm % (4294967296 : Int))) % (4294967296 : Int)) fun x3 =>
              (Tree.letv (okO [(AT.i IntKind.i64)]) (if (Or (i.op = (13 : Int)) (i.op = (14 : Int))) then (1 : Int) else (4 : Int)) fun x4 =>
              (bif (decide (And (Or (x4 = (1 : Int)) (x4 = (4 : Int))) ((List.length m.mem) ≤ 1099511627776))) then
                (Tree.letv (okO [AT.mach, AT.trap]) (K.store m x3 x4 x2) fun x5 =>
                (bif (BEq.beq x5.snd.cause (0 : Int)) then
                  (Tree.letv (okO [AT.core]) (PCore.mk x5.fst.core.regs ((x5.fst.core.pc + (4 : Int)) % (4294967296 : Int)) x5.fst.core.csr) fun x6 =>
                  (Tree.leaf (SV.tup [(SV.agg [(SV.arr IntKind.u32 16 x6.regs), (SV.v (Value.int IntKind.u32 x6.pc)), (SV.arr IntKind.u32 12 x6.csr), (SV.rd ETy.u8 x5.fst.mem), (SV.v (Value.int IntKind.u64 x5.fst.time)), (SV.rd ETy.u8 x5.fst.out), (SV.v (Value.bool x5.fst.halted))]), (SV.agg [(SV.v (Value.int IntKind.i64 x5.snd.cause)), (SV.v (Value.int IntKind.u32 x5.snd.tval))])])))
                else
                  (Tree.leaf (SV.tup [(SV.agg [(SV.arr IntKind.u32 16 m.core.regs), (SV.v (Value.int IntKind.u32 m.core.pc)), (SV.arr IntKind.u32 12 m.core.csr), (SV.rd ETy.u8 m.mem), (SV.v (Value.int IntKind.u64 m.time)), (SV.rd ETy.u8 m.out), (SV.v (Value.bool m.halted))]), (SV.agg [(SV.v (Value.int IntKind.i64 x5.snd.cause)), (SV.v (Value.int IntKind.u32 x5.snd.tval))])]))))
              else
                (Tree.fail))))
            else
              (bif (BEq.beq i.op (15 : Int)) then
                (Tree.letv (okO [AT.b]) (K.taken i.op x2 x0) fun x3 =>
                (bif x3 then
                  (Tree.letv (okO [(AT.i IntKind.u32)]) (((4 : Int) * (i.imm % (4294967296 : Int))) % (4294967296 : Int)) fun x4 =>
                  (Tree.letv (okO [AT.core]) (PCore.mk m.core.regs ((m.core.pc + x4) % (4294967296 : Int)) m.core.csr) fun x5 =>
                  (Tree.leaf (SV.tup [(SV.agg [(SV.arr IntKind.u32 16 x5.regs), (SV.v (Value.int IntKind.u32 x5.pc)), (SV.arr IntKind.u32 12 x5.csr), (SV.rd ETy.u8 m.mem), (SV.v (Value.int IntKind.u64 m.time)), (SV.rd ETy.u8 m.out), (SV.v (Value.bool m.halted))]), (SV.agg [(SV.v (Value.int IntKind.i64 (0 : Int))), (SV.v (Value.int IntKind.u32 (0 : Int)))])]))))
                else
                  (Tree.letv (okO [AT.core]) (PCore.mk m.core.regs ((m.core.pc + (4 : Int)) % (4294967296 : Int)) m.core.csr) fun x4 =>
                  (Tree.leaf (SV.tup [(SV.agg [(SV.arr IntKind.u32 16 x4.regs), (SV.v (Value.int IntKind.u32 x4.pc)), (SV.arr IntKind.u32 12 x4.csr), (SV.rd ETy.u8 m.mem), (SV.v (Value.int IntKind.u64 m.time)), (SV.rd ETy.u8 m.out), (SV.v (Value.bool m.halted))]), (SV.agg [(SV.v (Value.int IntKind.i64 (0 : Int))), (SV.v (Value.int IntKind.u32 (0 : Int)))])])))))
              else
                (bif (BEq.beq i.op (16 : Int)) then
                  (Tree.letv (okO [AT.b]) (K.taken i.op x2 x0) fun x3 =>
                  (bif x3 then
                    (Tree.letv (okO [(AT.i IntKind.u32)]) (((4 : Int) * (i.imm % (4294967296 : Int))) % (4294967296 : Int)) fun x4 =>
                    (Tree.letv (okO [AT.core]) (PCore.mk m.core.regs ((m.core.pc + x4) % (4294967296 : Int)) m.core.csr) fun x5 =>
                    (Tree.leaf (SV.tup [(SV.agg [(SV.arr IntKind.u32 16 x5.regs), (SV.v (Value.int IntKind.u32 x5.pc)), (SV.arr IntKind.u32 12 x5.csr), (SV.rd ETy.u8 m.mem), (SV.v (Value.int IntKind.u64 m.time)), (SV.rd ETy.u8 m.out), (SV.v (Value.bool m.halted))]), (SV.agg [(SV.v (Value.int IntKind.i64 (0 : Int))), (SV.v (Value.int IntKind.u32 (0 : Int)))])]))))
                  else
                    (Tree.letv (okO [AT.core]) (PCore.mk m.core.regs ((m.core.pc + (4 : Int)) % (4294967296 : Int)) m.core.csr) fun x4 =>
                    (Tree.leaf (SV.tup [(SV.agg [(SV.arr IntKind.u32 16 x4.regs), (SV.v (Value.int IntKind.u32 x4.pc)), (SV.arr IntKind.u32 12 x4.csr), (SV.rd ETy.u8 m.mem), (SV.v (Value.int IntKind.u64 m.time)), (SV.rd ETy.u8 m.out), (SV.v (Value.bool m.halted))]), (SV.agg [(SV.v (Value.int IntKind.i64 (0 : Int))), (SV.v (Value.int IntKind.u32 (0 : Int)))])])))))
                else
                  (bif (BEq.beq i.op (17 : Int)) then
                    (Tree.letv (okO [AT.b]) (K.taken i.op x2 x0) fun x3 =>
                    (bif x3 then
                      (Tree.letv (okO [(AT.i IntKind.u32)]) (((4 : Int) * (i.imm % (4294967296 : Int))) % (4294967296 : Int)) fun x4 =>
                      (Tree.letv (okO [AT.core]) (PCore.mk m.core.regs ((m.core.pc + x4) % (4294967296 : Int)) m.core.csr) fun x5 =>
                      (Tree.leaf (SV.tup [(SV.agg [(SV.arr IntKind.u32 16 x5.regs), (SV.v (Value.int IntKind.u32 x5.pc)), (SV.arr IntKind.u32 12 x5.csr), (SV.rd ETy.u8 m.mem), (SV.v (Value.int IntKind.u64 m.time)), (SV.rd ETy.u8 m.out), (SV.v (Value.bool m.halted))]), (SV.agg [(SV.v (Value.int IntKind.i64 (0 : Int))), (SV.v (Value.int IntKind.u32 (0 : Int)))])]))))
                    else
                      (Tree.letv (okO [AT.core]) (PCore.mk m.core.regs ((m.core.pc + (4 : Int)) % (4294967296 : Int)) m.core.csr) fun x4 =>
                      (Tree.leaf (SV.tup [(SV.agg [(SV.arr IntKind.u32 16 x4.regs), (SV.v (Value.int IntKind.u32 x4.pc)), (SV.arr IntKind.u32 12 x4.csr), (SV.rd ETy.u8 m.mem), (SV.v (Value.int IntKind.u64 m.time)), (SV.rd ETy.u8 m.out), (SV.v (Value.bool m.halted))]), (SV.agg [(SV.v (Value.int IntKind.i64 (0 : Int))), (SV.v (Value.int IntKind.u32 (0 : Int)))])])))))
                  else
                    (bif (BEq.beq i.op (18 : Int)) then
                      (Tree.letv (okO [(AT.i IntKind.u32)]) (((4 : Int) * (i.imm % (4294967296 : Int))) % (4294967296 : Int)) fun x3 =>
                      (bif (BEq.beq i.op (19 : Int)) then
                        (Tree.letv (okO [(AT.i IntKind.u32)]) ((x0 + (i.imm % (4294967296 : Int))) % (4294967296 : Int)) fun x4 =>
                        (Tree.letv (okO [(AT.a IntKind.u32 16)]) (K.put m.core.regs i.rd (IntKind.wrap IntKind.u32 (m.core.pc + (4 : Int)))) fun x5 =>
                        (Tree.letv (okO [AT.core]) (PCore.mk x5 ((m.core.pc + (4 : Int)) % (4294967296 : Int)) m.core.csr) fun x6 =>
                        (Tree.leaf (SV.tup [(SV.agg [(SV.arr IntKind.u32 16 x6.regs), (SV.v (Value.int IntKind.u32 x4)), (SV.arr IntKind.u32 12 x6.csr), (SV.rd ETy.u8 m.mem), (SV.v (Value.int IntKind.u64 m.time)), (SV.rd ETy.u8 m.out), (SV.v (Value.bool m.halted))]), (SV.agg [(SV.v (Value.int IntKind.i64 (0 : Int))), (SV.v (Value.int IntKind.u32 (0 : Int)))])])))))
                      else
                        (Tree.letv (okO [(AT.a IntKind.u32 16)]) (K.put m.core.regs i.rd (IntKind.wrap IntKind.u32 (m.core.pc + (4 : Int)))) fun x4 =>
                        (Tree.letv (okO [AT.core]) (PCore.mk x4 ((m.core.pc + (4 : Int)) % (4294967296 : Int)) m.core.csr) fun x5 =>
                        (Tree.leaf (SV.tup [(SV.agg [(SV.arr IntKind.u32 16 x5.regs), (SV.v (Value.int IntKind.u32 (IntKind.wrap IntKind.u32 (m.core.pc + x3)))), (SV.arr IntKind.u32 12 x5.csr), (SV.rd ETy.u8 m.mem), (SV.v (Value.int IntKind.u64 m.time)), (SV.rd ETy.u8 m.out), (SV.v (Value.bool m.halted))]), (SV.agg [(SV.v (Value.int IntKind.i64 (0 : Int))), (SV.v (Value.int IntKind.u32 (0 : Int)))])]))))))
                    else
                      (bif (BEq.beq i.op (19 : Int)) then
                        (Tree.letv (okO [(AT.i IntKind.u32)]) (((4 : Int) * (i.imm % (4294967296 : Int))) % (4294967296 : Int)) fun x3 =>
                        (bif (BEq.beq i.op (19 : Int)) then
                          (Tree.letv (okO [(AT.i IntKind.u32)]) ((x0 + (i.imm % (4294967296 : Int))) % (4294967296 : Int)) fun x4 =>
                          (Tree.letv (okO [(AT.a IntKind.u32 16)]) (K.put m.core.regs i.rd (IntKind.wrap IntKind.u32 (m.core.pc + (4 : Int)))) fun x5 =>
                          (Tree.letv (okO [AT.core]) (PCore.mk x5 ((m.core.pc + (4 : Int)) % (4294967296 : Int)) m.core.csr) fun x6 =>
                          (Tree.leaf (SV.tup [(SV.agg [(SV.arr IntKind.u32 16 x6.regs), (SV.v (Value.int IntKind.u32 x4)), (SV.arr IntKind.u32 12 x6.csr), (SV.rd ETy.u8 m.mem), (SV.v (Value.int IntKind.u64 m.time)), (SV.rd ETy.u8 m.out), (SV.v (Value.bool m.halted))]), (SV.agg [(SV.v (Value.int IntKind.i64 (0 : Int))), (SV.v (Value.int IntKind.u32 (0 : Int)))])])))))
                        else
                          (Tree.letv (okO [(AT.a IntKind.u32 16)]) (K.put m.core.regs i.rd (IntKind.wrap IntKind.u32 (m.core.pc + (4 : Int)))) fun x4 =>
                          (Tree.letv (okO [AT.core]) (PCore.mk x4 ((m.core.pc + (4 : Int)) % (4294967296 : Int)) m.core.csr) fun x5 =>
                          (Tree.leaf (SV.tup [(SV.agg [(SV.arr IntKind.u32 16 x5.regs), (SV.v (Value.int IntKind.u32 (IntKind.wrap IntKind.u32 (m.core.pc + x3)))), (SV.arr IntKind.u32 12 x5.csr), (SV.rd ETy.u8 m.mem), (SV.v (Value.int IntKind.u64 m.time)), (SV.rd ETy.u8 m.out), (SV.v (Value.bool m.halted))]), (SV.agg [(SV.v (Value.int IntKind.i64 (0 : Int))), (SV.v (Value.int IntKind.u32 (0 : Int)))])]))))))
                      else
                        (bif (BEq.beq i.op (20 : Int)) then
                          (Tree.leaf (SV.tup [(SV.agg [(SV.arr IntKind.u32 16 m.core.regs), (SV.v (Value.int IntKind.u32 m.core.pc)), (SV.arr IntKind.u32 12 m.core.csr), (SV.rd ETy.u8 m.mem), (SV.v (Value.int IntKind.u64 m.time)), (SV.rd ETy.u8 m.out), (SV.v (Value.bool m.halted))]), (SV.agg [(SV.v (Value.int IntKind.i64 (5 : Int))), (SV.v (Value.int IntKind.u32 (0 : Int)))])]))
                        else
                          (Tree.letv (okO [(AT.i IntKind.i64)]) (K.form i.op) fun x3 =>
                          (bif (BEq.beq x3 (1 : Int)) then
                            (Tree.letv (okO [(AT.i IntKind.u32)]) (K.alu i.op x0 x1) fun x4 =>
                            (Tree.letv (okO [(AT.a IntKind.u32 16)]) (K.put m.core.regs i.rd x4) fun x5 =>
                            (Tree.letv (okO [AT.core]) (PCore.mk x5 ((m.core.pc + (4 : Int)) % (4294967296 : Int)) m.core.csr) fun x6 =>
                            (Tree.leaf (SV.tup [(SV.agg [(SV.arr IntKind.u32 16 x6.regs), (SV.v (Value.int IntKind.u32 x6.pc)), (SV.arr IntKind.u32 12 x6.csr), (SV.rd ETy.u8 m.mem), (SV.v (Value.int IntKind.u64 m.time)), (SV.rd ETy.u8 m.out), (SV.v (Value.bool m.halted))]), (SV.agg [(SV.v (Value.int IntKind.i64 (0 : Int))), (SV.v (Value.int IntKind.u32 (0 : Int)))])])))))
                          else
                            (Tree.leaf (SV.tup [(SV.agg [(SV.arr IntKind.u32 16 m.core.regs), (SV.v (Value.int IntKind.u32 m.core.pc)), (SV.arr IntKind.u32 12 m.core.csr), (SV.rd ETy.u8 m.mem), (SV.v (Value.int IntKind.u64 m.time)), (SV.rd ETy.u8 m.out), (SV.v (Value.bool m.halted))]), (SV.agg [(SV.v (Value.int IntKind.i64 (0 : Int))), (SV.v (Value.int IntKind.u32 (0 : Int)))])])))))))))))))))))) := by kernel_rfl
theorem a_exec_Execute (m : PMach) (i : PInstr) (hpre : 1 ≤ i.op ∧ i.op ≤ 20 ∧ m.mem.length ≤ 1099511627776) (ok_m : okMach m) (ok_i : okInstr i) : (evF E_exec_Execute 60 82 (encArgs [.mach, .instr] (m, i, ()))).ends fun out_ => decO [.mach, .trap] out_ = some (K.exec m i) := by
  rw [t_exec_Execute, Tree.ends_holds]
  obtain ⟨im0, im1⟩ := okI_i32 ok_i.imm
  have hpre1 := hpre.1
  have hpre2 := hpre.2.1
  simp only [Tree.holds_loop, Tree.holds_fork, Tree.holds_next, if_true, Tree.holds_cond, Tree.holds_letv, Tree.holds_leaf, Tree.holds_fail, decO, decA, decTup, decMach, decCore, decTrap, decInstr, decPart, decGuest, decConf, decEvent, decVcpu, decStep, bytesS, boolS, eventsS, intsS, guestsS, vcpusS, rowS, castL, Option.bind_some, Option.map_some, Option.some.injEq, Nat.beq_refl, beq_self_eq_true, Bool.and_self, cond_true, cond_false, eq_self, beq_iff_eq, beq_eq_false_iff_ne, bne_iff_ne, bne_eq_false_iff_eq, ne_eq, decide_eq_true_eq, decide_eq_false_iff_not, ble_true, ble_false, inRange_iff, inRange_false, wrap32]
  have e0 : (K.get m.core.regs i.ra + i.imm % 4294967296) % 4294967296 = K.ea m i := rfl
  have e1 : 4 * (i.imm % 4294967296) % 4294967296 = K.far i := by unfold K.far; omega
  have x1 : 1 ≤ i.op → i.op ≤ 8 → K.exec m i = _ := fun a b => by unfold K.exec; rw [if_pos ⟨a, b⟩]
  have x9 : i.op = 9 → K.exec m i = _ := fun a => by unfold K.exec; rw [if_neg (by omega), if_pos a]
  have x10 : i.op = 10 → K.exec m i = _ := fun a => by unfold K.exec; rw [if_neg (by omega), if_neg (by omega), if_pos a]
  have x11 : i.op = 11 ∨ i.op = 13 → K.exec m i = _ := fun a => by unfold K.exec; rw [if_neg (by omega), if_neg (by omega), if_neg (by omega), if_pos a]
  have x12 : i.op = 12 ∨ i.op = 14 → K.exec m i = _ := fun a => by unfold K.exec; rw [if_neg (by omega), if_neg (by omega), if_neg (by omega), if_neg (by omega), if_pos a]
  have x15 : 15 ≤ i.op → i.op ≤ 17 → K.exec m i = _ := fun a b => by unfold K.exec; rw [if_neg (by omega), if_neg (by omega), if_neg (by omega), if_neg (by omega), if_neg (by omega), if_pos ⟨a, b⟩]
  have x18 : i.op = 18 → K.exec m i = _ := fun a => by unfold K.exec; rw [if_neg (by omega), if_neg (by omega), if_neg (by omega), if_neg (by omega), if_neg (by omega), if_neg (by omega), if_pos a]
  have x19 : i.op = 19 → K.exec m i = _ := fun a => by unfold K.exec; rw [if_neg (by omega), if_neg (by omega), if_neg (by omega), if_neg (by omega), if_neg (by omega), if_neg (by omega), if_neg (by omega), if_pos a]
  have x20 : i.op = 20 → K.exec m i = (m, ⟨5, 0⟩) := fun a => by unfold K.exec; rw [if_neg (by omega), if_neg (by omega), if_neg (by omega), if_neg (by omega), if_neg (by omega), if_neg (by omega), if_neg (by omega), if_neg (by omega)]
  have hform : K.form i.op = 1 → i.op ≤ 8 := fun h => by unfold K.form at h; (repeat' split at h) <;> omega
  have hform2 : ¬ K.form i.op = 1 → 8 < i.op := fun h => by
    unfold K.form at h
    by_cases q : i.op ≤ 8
    · rw [if_pos ⟨hpre1, q⟩] at h; exact absurd rfl h
    · omega
  simp only [e0, e1]
  clear ok_m ok_i im0 im1
  have lz := fun a n => load_zero (m := m) (a := a) (n := n)
  have sz := fun a n v => store_zero (m := m) (a := a) (n := n) (v := v)
  have ss := fun a n v => store_same (m := m) (a := a) (n := n) (v := v)
  repeat' (first | refine drop_ok ?_ | intro _ | with_reducible apply And.intro)
  all_goals try omega
  all_goals try (rw [x9 (by assumption)]; rfl)
  all_goals try (rw [x10 (by assumption)]; rfl)
  all_goals try (rw [x18 (by assumption)]; rfl)
  all_goals try (rw [x19 (by assumption)]; rfl)
  all_goals try (rw [x20 (by assumption)])
  all_goals try (rw [x1 hpre1 (hform (by assumption))]; rfl)
  all_goals try (
    have q : i.op = 11 := by assumption
    have n1 : (if i.op = 13 ∨ i.op = 14 then (1 : Int) else 4) = 4 := if_neg (by omega)
    have n2 : (if i.op = 13 then (1 : Int) else 4) = 4 := if_neg (by omega)
    rw [x11 (.inl q)]
    simp only [n1, n2] at *
    first
      | (have c : (K.load m (K.ea m i) 4).2.cause = 0 := by assumption
         rw [if_pos c]; simp only [c, lz _ _ c]; rfl)
      | (rw [if_neg (show ¬ (K.load m (K.ea m i) 4).2.cause = 0 by assumption)]; first | done | rfl))
  all_goals try (
    have q : i.op = 13 := by assumption
    have n1 : (if i.op = 13 ∨ i.op = 14 then (1 : Int) else 4) = 1 := if_pos (by omega)
    have n2 : (if i.op = 13 then (1 : Int) else 4) = 1 := if_pos (by omega)
    rw [x11 (.inr q)]
    simp only [n1, n2] at *
    first
      | (have c : (K.load m (K.ea m i) 1).2.cause = 0 := by assumption
         rw [if_pos c]; simp only [c, lz _ _ c]; rfl)
      | (rw [if_neg (show ¬ (K.load m (K.ea m i) 1).2.cause = 0 by assumption)]; first | done | rfl))
  all_goals try (
    have q : i.op = 12 := by assumption
    have n1 : (if i.op = 13 ∨ i.op = 14 then (1 : Int) else 4) = 4 := if_neg (by omega)
    have n2 : (if i.op = 14 then (1 : Int) else 4) = 4 := if_neg (by omega)
    rw [x12 (.inl q)]
    simp only [n1, n2] at *
    first
      | (have c : (K.store m (K.ea m i) 4 (K.get m.core.regs i.rd)).2.cause = 0 := by assumption
         obtain ⟨s1, s2, s3, s4⟩ := ss (K.ea m i) 4 (K.get m.core.regs i.rd)
         rw [if_pos c]; simp only [c, sz _ _ _ c, s1]; simp only [K.wpc, s1])
      | (rw [if_neg (show ¬ (K.store m (K.ea m i) 4 (K.get m.core.regs i.rd)).2.cause = 0 by assumption)]; first | done | rfl))
  all_goals try (
    have q : i.op = 14 := by assumption
    have n1 : (if i.op = 13 ∨ i.op = 14 then (1 : Int) else 4) = 1 := if_pos (by omega)
    have n2 : (if i.op = 14 then (1 : Int) else 4) = 1 := if_pos (by omega)
    rw [x12 (.inr q)]
    simp only [n1, n2] at *
    first
      | (have c : (K.store m (K.ea m i) 1 (K.get m.core.regs i.rd)).2.cause = 0 := by assumption
         obtain ⟨s1, s2, s3, s4⟩ := ss (K.ea m i) 1 (K.get m.core.regs i.rd)
         rw [if_pos c]; simp only [c, sz _ _ _ c, s1]; simp only [K.wpc, s1])
      | (rw [if_neg (show ¬ (K.store m (K.ea m i) 1 (K.get m.core.regs i.rd)).2.cause = 0 by assumption)]; first | done | rfl))
  all_goals try (rw [x15 (by omega) (by omega), if_pos (by assumption)]; rfl)
  all_goals try (rw [x15 (by omega) (by omega), if_neg (by rw [show K.taken i.op (K.get m.core.regs i.rd) (K.get m.core.regs i.ra) = false by assumption]; decide)]; rfl)
  all_goals try (have := hform2 (by assumption); omega)
  all_goals try (exfalso; rename_i q; apply q; split <;> simp; done)
  all_goals try (exfalso; rename_i q; apply q; refine ⟨?_, hpre.2.2⟩; split <;> simp; done)
  
theorem c_exec_Execute : SpecOk EB_1_2 82 S_exec_Execute := spec_sig ok_exec_Execute (n := 60) fun ⟨m, i, ⟨⟩⟩ h hok => a_exec_Execute m i (of_decide_eq_true h) (ok_mach (okSL_head hok)) (ok_instr (okSL_head (okSL_tail hok)))

/-! step_StepNoTimer -/

def S_step_StepNoTimer : Spec := sig [.mach] [.mach, .trap] (fun (m, _) => K.plain m) (pre := fun (m, _) => decide (m.mem.length ≤ 1099511627776 ∧ m.out.length ≤ 1099511627776))
noncomputable def E_step_StepNoTimer : Env := EB_0_1_2.adds [(81, S_step_Current), (51, S_step_end), (54, S_isa_IsPrivileged), (37, S_priv_Execute), (82, S_exec_Execute)]

theorem ok_step_StepNoTimer : EnvOk E_step_StepNoTimer := okEB_0_1_2.adds (l := _) ⟨c_step_Current, (up_to_0_1_2 c_step_end), (up_to_0_1_2 c_isa_IsPrivileged), (up_to_0_1_2 c_priv_Execute), (up_1_2_to_0_1_2 c_exec_Execute), trivial⟩

theorem t_step_StepNoTimer (m : PMach) : evF E_step_StepNoTimer 60 52 (encArgs [.mach] (m, ())) = 
  bif m.halted then
    (Tree.leaf (SV.tup [(SV.agg [(SV.arr IntKind.u32 16 m.core.regs), (SV.v (Value.int IntKind.u32 m.core.pc)), (SV.arr IntKind.u32 12 m.core.csr), (SV.rd ETy.u8 m.mem), (SV.v (Value.int IntKind.u64 m.time)), (SV.rd ETy.u8 m.out), (SV.v (Value.bool m.halted))]), (SV.agg [(SV.v (Value.int IntKind.i64 (0 : Int))), (SV.v (Value.int IntKind.u32 (0 : Int)))])]))
  else
    (Tree.letv (okO [AT.instr, AT.trap]) (K.cur m) fun x0 =>
    (bif (bne x0.snd.cause (0 : Int)) then
      (Tree.letv (okO [AT.mach, AT.trap]) (K.endS m x0.snd) fun x1 =>
      (Tree.leaf (SV.tup [(SV.agg [(SV.arr IntKind.u32 16 x1.fst.core.regs), (SV.v (Value.int IntKind.u32 x1.fst.core.pc)), (SV.arr IntKind.u32 12 x1.fst.core.csr), (SV.rd ETy.u8 x1.fst.mem), (SV.v (Value.int IntKind.u64 x1.fst.time)), (SV.rd ETy.u8 x1.fst.out), (SV.v (Value.bool x1.fst.halted))]), (SV.agg [(SV.v (Value.int IntKind.i64 x1.snd.cause)), (SV.v (Value.int IntKind.u32 x1.snd.tval))])])))
    else
      (Tree.letv (okO [AT.b]) (K.privd x0.fst.op) fun x1 =>
      (bif x1 then
        (bif (decide ((List.length m.out) ≤ 1099511627776)) then
          (Tree.letv (okO [AT.mach]) (K.priv m x0.fst) fun x2 =>
          (Tree.letv (okO [AT.mach, AT.trap]) (K.endS x2 x0.snd) fun x3 =>
          (Tree.leaf (SV.tup [(SV.agg [(SV.arr IntKind.u32 16 x3.fst.core.regs), (SV.v (Value.int IntKind.u32 x3.fst.core.pc)), (SV.arr IntKind.u32 12 x3.fst.core.csr), (SV.rd ETy.u8 x3.fst.mem), (SV.v (Value.int IntKind.u64 x3.fst.time)), (SV.rd ETy.u8 x3.fst.out), (SV.v (Value.bool x3.fst.halted))]), (SV.agg [(SV.v (Value.int IntKind.i64 x3.snd.cause)), (SV.v (Value.int IntKind.u32 x3.snd.tval))])]))))
        else
          (Tree.fail))
      else
        (bif (decide (And ((1 : Int) ≤ x0.fst.op) (And (x0.fst.op ≤ (20 : Int)) ((List.length m.mem) ≤ 1099511627776)))) then
          (Tree.letv (okO [AT.mach, AT.trap]) (K.exec m x0.fst) fun x2 =>
          (Tree.letv (okO [AT.mach, AT.trap]) (K.endS x2.fst x2.snd) fun x3 =>
          (Tree.leaf (SV.tup [(SV.agg [(SV.arr IntKind.u32 16 x3.fst.core.regs), (SV.v (Value.int IntKind.u32 x3.fst.core.pc)), (SV.arr IntKind.u32 12 x3.fst.core.csr), (SV.rd ETy.u8 x3.fst.mem), (SV.v (Value.int IntKind.u64 x3.fst.time)), (SV.rd ETy.u8 x3.fst.out), (SV.v (Value.bool x3.fst.halted))]), (SV.agg [(SV.v (Value.int IntKind.i64 x3.snd.cause)), (SV.v (Value.int IntKind.u32 x3.snd.tval))])]))))
        else
          (Tree.fail)))))) := by kernel_rfl
theorem a_step_StepNoTimer (m : PMach) (hpre : m.mem.length ≤ 1099511627776 ∧ m.out.length ≤ 1099511627776) (ok_m : okMach m) : (evF E_step_StepNoTimer 60 52 (encArgs [.mach] (m, ()))).ends fun out_ => decO [.mach, .trap] out_ = some (K.plain m) := by
  rw [t_step_StepNoTimer, Tree.ends_holds]
  have hmay := fun h => cur_may (m := m) h
  have hz := fun h => cur_zero (m := m) h
  simp only [Tree.holds_loop, Tree.holds_fork, Tree.holds_next, if_true, Tree.holds_cond, Tree.holds_letv, Tree.holds_leaf, Tree.holds_fail, decO, decA, decTup, decMach, decCore, decTrap, decInstr, decPart, decGuest, decConf, decEvent, decVcpu, decStep, bytesS, boolS, eventsS, intsS, guestsS, vcpusS, rowS, castL, Option.bind_some, Option.map_some, Option.some.injEq, Nat.beq_refl, beq_self_eq_true, Bool.and_self, cond_true, cond_false, eq_self, beq_iff_eq, beq_eq_false_iff_ne, bne_iff_ne, bne_eq_false_iff_eq, ne_eq, decide_eq_true_eq, decide_eq_false_iff_not, ble_true, ble_false, inRange_iff, inRange_false]
  unfold K.plain
  repeat' (first | refine drop_ok ?_ | intro _ | with_reducible apply And.intro)
  · rename_i h; rw [if_pos h]
  · rename_i h c; rw [if_neg (by rw [h]; decide), if_pos c]
  · rename_i h c p _; rw [if_neg (by rw [h]; decide), if_neg (by simp [c]), if_pos p, hz c]
  · omega
  · rename_i h c p _; rw [if_neg (by rw [h]; decide), if_neg (by simp [c]), if_neg (by rw [p]; decide)]
  · rename_i h c p q
    have hm := (hmay c).op
    apply q
    refine ⟨hm.1, ?_, hpre.1⟩
    have : ¬ (21 ≤ (K.cur m).1.op ∧ (K.cur m).1.op ≤ 25) := fun z => by rw [privd_range.2 z] at p; cases p
    omega
  
theorem c_step_StepNoTimer : SpecOk EB_0_1_2 52 S_step_StepNoTimer := spec_sig ok_step_StepNoTimer (n := 60) fun ⟨m, ⟨⟩⟩ h hok => a_step_StepNoTimer m (of_decide_eq_true h) (ok_mach (okSL_head hok))

/-! step_Step -/

def S_step_Step : Spec := sig [.mach] [.mach, .trap] (fun (m, _) => K.step m) (pre := fun (m, _) => decide (m.mem.length ≤ 1099511627776 ∧ m.out.length ≤ 1099511627776))
noncomputable def E_step_Step : Env := EB_0_1_2.adds [(50, S_fetch_TimerPending), (51, S_step_end), (52, S_step_StepNoTimer)]

theorem ok_step_Step : EnvOk E_step_Step := okEB_0_1_2.adds (l := _) ⟨(up_to_0_1_2 c_fetch_TimerPending), (up_to_0_1_2 c_step_end), c_step_StepNoTimer, trivial⟩

theorem t_step_Step (m : PMach) : evF E_step_Step 60 32 (encArgs [.mach] (m, ())) = 
  bif m.halted then
    (bif (decide (And ((List.length m.mem) ≤ 1099511627776) ((List.length m.out) ≤ 1099511627776))) then
      (Tree.letv (okO [AT.mach, AT.trap]) (K.plain m) fun x0 =>
      (Tree.leaf (SV.tup [(SV.agg [(SV.arr IntKind.u32 16 x0.fst.core.regs), (SV.v (Value.int IntKind.u32 x0.fst.core.pc)), (SV.arr IntKind.u32 12 x0.fst.core.csr), (SV.rd ETy.u8 x0.fst.mem), (SV.v (Value.int IntKind.u64 x0.fst.time)), (SV.rd ETy.u8 x0.fst.out), (SV.v (Value.bool x0.fst.halted))]), (SV.agg [(SV.v (Value.int IntKind.i64 x0.snd.cause)), (SV.v (Value.int IntKind.u32 x0.snd.tval))])])))
    else
      (Tree.fail))
  else
    (Tree.letv (okO [AT.b]) (K.due m) fun x0 =>
    (bif x0 then
      (Tree.letv (okO [AT.mach, AT.trap]) (K.endS m (PTrap.mk (6 : Int) (0 : Int))) fun x1 =>
      (Tree.leaf (SV.tup [(SV.agg [(SV.arr IntKind.u32 16 x1.fst.core.regs), (SV.v (Value.int IntKind.u32 x1.fst.core.pc)), (SV.arr IntKind.u32 12 x1.fst.core.csr), (SV.rd ETy.u8 x1.fst.mem), (SV.v (Value.int IntKind.u64 x1.fst.time)), (SV.rd ETy.u8 x1.fst.out), (SV.v (Value.bool x1.fst.halted))]), (SV.agg [(SV.v (Value.int IntKind.i64 x1.snd.cause)), (SV.v (Value.int IntKind.u32 x1.snd.tval))])])))
    else
      (bif (decide (And ((List.length m.mem) ≤ 1099511627776) ((List.length m.out) ≤ 1099511627776))) then
        (Tree.letv (okO [AT.mach, AT.trap]) (K.plain m) fun x1 =>
        (Tree.leaf (SV.tup [(SV.agg [(SV.arr IntKind.u32 16 x1.fst.core.regs), (SV.v (Value.int IntKind.u32 x1.fst.core.pc)), (SV.arr IntKind.u32 12 x1.fst.core.csr), (SV.rd ETy.u8 x1.fst.mem), (SV.v (Value.int IntKind.u64 x1.fst.time)), (SV.rd ETy.u8 x1.fst.out), (SV.v (Value.bool x1.fst.halted))]), (SV.agg [(SV.v (Value.int IntKind.i64 x1.snd.cause)), (SV.v (Value.int IntKind.u32 x1.snd.tval))])])))
      else
        (Tree.fail)))) := by kernel_rfl
theorem a_step_Step (m : PMach) (hpre : m.mem.length ≤ 1099511627776 ∧ m.out.length ≤ 1099511627776) (ok_m : okMach m) : (evF E_step_Step 60 32 (encArgs [.mach] (m, ()))).ends fun out_ => decO [.mach, .trap] out_ = some (K.step m) := by
  rw [t_step_Step, Tree.ends_holds]
  simp only [Tree.holds_loop, Tree.holds_fork, Tree.holds_next, if_true, Tree.holds_cond, Tree.holds_letv, Tree.holds_leaf, Tree.holds_fail, decO, decA, decTup, decMach, decCore, decTrap, decInstr, decPart, decGuest, decConf, decEvent, decVcpu, decStep, bytesS, boolS, eventsS, intsS, guestsS, vcpusS, rowS, castL, Option.bind_some, Option.map_some, Option.some.injEq, Nat.beq_refl, beq_self_eq_true, Bool.and_self, cond_true, cond_false, eq_self, beq_iff_eq, beq_eq_false_iff_ne, bne_iff_ne, bne_eq_false_iff_eq, ne_eq, decide_eq_true_eq, decide_eq_false_iff_not, ble_true, ble_false, inRange_iff, inRange_false]
  unfold K.step
  repeat' (first | refine drop_ok ?_ | intro _ | with_reducible apply And.intro)
  all_goals first | (simp_all; done) | omega
  
theorem c_step_Step : SpecOk EB_0_1_2 32 S_step_Step := spec_sig ok_step_Step (n := 60) fun ⟨m, ⟨⟩⟩ h hok => a_step_Step m (of_decide_eq_true h) (ok_mach (okSL_head hok))

/-! law19_EmulationMatchesStep -/

def S_law19_EmulationMatchesStep : Spec := sig [.vcpu, .i .u32, .i .u64] [.b] (fun (v, w, time, _) => true)
noncomputable def E_law19_EmulationMatchesStep : Env := EB_0_1_2.adds [(19, S_ref02_Decode), (11, S_law19_awake), (12, S_ref16_Few), (20, S_ref02_Privileged), (31, S_ref05_Store), (32, S_step_Step), (14, S_emul_Emulate), (28, S_ref05_Same)]

theorem ok_law19_EmulationMatchesStep : EnvOk E_law19_EmulationMatchesStep := okEB_0_1_2.adds (l := _) ⟨(up_to_0_1_2 c_ref02_Decode), (up_0_1_to_0_1_2 c_law19_awake), (up_to_0_1_2 c_ref16_Few), (up_to_0_1_2 c_ref02_Privileged), (up_to_0_1_2 c_ref05_Store), c_step_Step, (up_0_1_to_0_1_2 c_emul_Emulate), (up_to_0_1_2 c_ref05_Same), trivial⟩

theorem t_law19_EmulationMatchesStep (v : PVcpu) (w : Int) (time : Int) : evF E_law19_EmulationMatchesStep 60 10 (encArgs [.vcpu, .i .u32, .i .u64] (v, w, time, ())) = 
  Tree.letv (okO [AT.instr, AT.b]) (K.decode w) fun x0 =>
  (bif x0.snd then
    (Tree.letv (okO [AT.b]) true fun x1 =>
    (bif x1 then
      (Tree.letv (okO [AT.b]) (K.vfew v) fun x2 =>
      (bif x2 then
        (Tree.letv (okO [AT.b]) (K.privd x0.fst.op) fun x3 =>
        (bif x3 then
          (bif v.halted then
            (Tree.letv (okO [AT.b]) true fun x4 =>
            (bif x4 then
              (Tree.leaf (SV.b true))
            else
              (Tree.leaf (SV.b false))))
          else
            (Tree.letv (okO [(AT.rd ETy.u8), AT.b]) (if ((K.inR (16 : Int) (8 : Int) (4 : Int)) = true) then ((K.st [(0 : Int), (0 : Int), (0 : Int), (0 : Int), (0 : Int), (0 : Int), (0 : Int), (0 : Int), (0 : Int), (0 : Int), (0 : Int), (0 : Int), (0 : Int), (0 : Int), (0 : Int), (0 : Int)] (8 : Int) (4 : Int) w), true) else ([(0 : Int), (0 : Int), (0 : Int), (0 : Int), (0 : Int), (0 : Int), (0 : Int), (0 : Int), (0 : Int), (0 : Int), (0 : Int), (0 : Int), (0 : Int), (0 : Int), (0 : Int), (0 : Int)], false)) fun x4 =>
            (bif x4.snd then
              (bif (decide (And ((List.length x4.fst) ≤ 1099511627776) ((List.length v.out) ≤ 1099511627776))) then
                (Tree.letv (okO [AT.mach, AT.trap]) (K.step (PMach.mk (PCore.mk v.core.regs (8 : Int) (List.set v.core.csr 0 (IntKind.wrap IntKind.u32 ((1 : Int) + (IntKind.wrap IntKind.u32 ((IntKind.wrap IntKind.u32 (Int.tdiv (List.getD v.core.csr 0 (0 : Int)) (4 : Int))) * (4 : Int))))))) x4.fst time v.out false)) fun x5 =>
                (bif (decide (And ((List.length v.out) ≤ 1099511627776) ((List.length v.log) ≤ 1099511627776))) then
                  (Tree.letv (okO [AT.vcpu]) (K.emu (PVcpu.mk (PCore.mk v.core.regs (8 : Int) (List.set v.core.csr 0 (IntKind.wrap IntKind.u32 ((1 : Int) + (IntKind.wrap IntKind.u32 ((IntKind.wrap IntKind.u32 (Int.tdiv (List.getD v.core.csr 0 (0 : Int)) (4 : Int))) * (4 : Int))))))) v.out v.halted v.done v.log) w time) fun x6 =>
                  (bif (Bool.and (BEq.beq x5.snd.cause (0 : Int)) (Bool.and (BEq.beq x5.snd.tval (0 : Int)) true)) then
                    (bif (Bool.and (decide (x6.core.regs = x5.fst.core.regs)) (Bool.and (BEq.beq x6.core.pc x5.fst.core.pc) (Bool.and (decide (x6.core.csr = x5.fst.core.csr)) true))) then
                      (Tree.letv (okO [AT.b]) (decide (x6.out = x5.fst.out)) fun x7 =>
                      (bif x7 then
                        (bif x6.halted then
                          (bif x5.fst.halted then
                            (bif (BEq.beq x6.done (IntKind.wrap IntKind.i64 (v.done + (1 : Int)))) then
                              (Tree.leaf (SV.b true))
                            else
                              (Tree.leaf (SV.b false)))
                          else
                            (Tree.leaf (SV.b false)))
                        else
                          (bif x5.fst.halted then
                            (Tree.leaf (SV.b false))
                          else
                            (bif (BEq.beq x6.done (IntKind.wrap IntKind.i64 (v.done + (1 : Int)))) then
                              (Tree.leaf (SV.b true))
                            else
                              (Tree.leaf (SV.b false)))))
                      else
                        (Tree.leaf (SV.b false))))
                    else
                      (Tree.leaf (SV.b false)))
                  else
                    (Tree.leaf (SV.b false))))
                else
                  (Tree.fail)))
              else
                (Tree.fail))
            else
              (bif (decide (And ((List.length x4.fst) ≤ 1099511627776) ((List.length v.out) ≤ 1099511627776))) then
                (Tree.letv (okO [AT.mach, AT.trap]) (K.step (PMach.mk (PCore.mk v.core.regs (8 : Int) (List.set v.core.csr 0 (IntKind.wrap IntKind.u32 ((1 : Int) + (IntKind.wrap IntKind.u32 ((IntKind.wrap IntKind.u32 (Int.tdiv (List.getD v.core.csr 0 (0 : Int)) (4 : Int))) * (4 : Int))))))) x4.fst time v.out false)) fun x5 =>
                (bif (decide (And ((List.length v.out) ≤ 1099511627776) ((List.length v.log) ≤ 1099511627776))) then
                  (Tree.letv (okO [AT.vcpu]) (K.emu (PVcpu.mk (PCore.mk v.core.regs (8 : Int) (List.set v.core.csr 0 (IntKind.wrap IntKind.u32 ((1 : Int) + (IntKind.wrap IntKind.u32 ((IntKind.wrap IntKind.u32 (Int.tdiv (List.getD v.core.csr 0 (0 : Int)) (4 : Int))) * (4 : Int))))))) v.out v.halted v.done v.log) w time) fun x6 =>
                  (bif (Bool.and (BEq.beq x5.snd.cause (0 : Int)) (Bool.and (BEq.beq x5.snd.tval (0 : Int)) true)) then
                    (bif (Bool.and (decide (x6.core.regs = x5.fst.core.regs)) (Bool.and (BEq.beq x6.core.pc x5.fst.core.pc) (Bool.and (decide (x6.core.csr = x5.fst.core.csr)) true))) then
                      (Tree.letv (okO [AT.b]) (decide (x6.out = x5.fst.out)) fun x7 =>
                      (bif x7 then
                        (bif x6.halted then
                          (bif x5.fst.halted then
                            (bif (BEq.beq x6.done (IntKind.wrap IntKind.i64 (v.done + (1 : Int)))) then
                              (Tree.leaf (SV.b true))
                            else
                              (Tree.leaf (SV.b false)))
                          else
                            (Tree.leaf (SV.b false)))
                        else
                          (bif x5.fst.halted then
                            (Tree.leaf (SV.b false))
                          else
                            (bif (BEq.beq x6.done (IntKind.wrap IntKind.i64 (v.done + (1 : Int)))) then
                              (Tree.leaf (SV.b true))
                            else
                              (Tree.leaf (SV.b false)))))
                      else
                        (Tree.leaf (SV.b false))))
                    else
                      (Tree.leaf (SV.b false)))
                  else
                    (Tree.leaf (SV.b false))))
                else
                  (Tree.fail)))
              else
                (Tree.fail)))))
        else
          (Tree.letv (okO [AT.b]) true fun x4 =>
          (bif x4 then
            (Tree.leaf (SV.b true))
          else
            (Tree.leaf (SV.b false))))))
      else
        (Tree.letv (okO [AT.b]) true fun x3 =>
        (bif x3 then
          (Tree.leaf (SV.b true))
        else
          (Tree.leaf (SV.b false))))))
    else
      (Tree.letv (okO [AT.b]) true fun x2 =>
      (bif x2 then
        (Tree.leaf (SV.b true))
      else
        (Tree.leaf (SV.b false))))))
  else
    (Tree.letv (okO [AT.b]) true fun x1 =>
    (bif x1 then
      (Tree.letv (okO [AT.b]) (K.vfew v) fun x2 =>
      (bif x2 then
        (Tree.letv (okO [AT.b]) true fun x3 =>
        (bif x3 then
          (Tree.leaf (SV.b true))
        else
          (Tree.leaf (SV.b false))))
      else
        (Tree.letv (okO [AT.b]) true fun x3 =>
        (bif x3 then
          (Tree.leaf (SV.b true))
        else
          (Tree.leaf (SV.b false))))))
    else
      (Tree.letv (okO [AT.b]) true fun x2 =>
      (bif x2 then
        (Tree.leaf (SV.b true))
      else
        (Tree.leaf (SV.b false))))))) := by kernel_rfl
theorem a_law19_EmulationMatchesStep (v : PVcpu) (w : Int) (time : Int) (ok_v : okVcpu v) (ok_w : okI .u32 w) (ok_time : okI .u64 time) : (evF E_law19_EmulationMatchesStep 60 10 (encArgs [.vcpu, .i .u32, .i .u64] (v, w, time, ()))).ends fun out_ => decO [.b] out_ = some (true) := by
  rw [t_law19_EmulationMatchesStep, Tree.ends_holds]
  obtain ⟨s0, s1⟩ := ok_v.core.csr.u32 (i := 0) (by omega)
  obtain ⟨w0, w1⟩ := okI_u32 ok_w
  have hl := ok_v.core.csr.1
  have f5 : K.vfew v = true → v.out.length ≤ 1099511627776 ∧ v.log.length ≤ 1099511627776 := fun h => by simp only [K.vfew, Bool.and_eq_true, decide_eq_true_eq] at h; omega
  have hi : K.inR 16 8 4 = true := by decide
  have hy : (IntKind.u32.wrap (1 + IntKind.u32.wrap (IntKind.u32.wrap ((v.core.csr.getD 0 0).tdiv 4) * 4))) % 4 = 1 := by rw [Int.tdiv_eq_ediv_of_nonneg s0]; simp only [wrap32]; omega
  simp only [Tree.holds_loop, Tree.holds_fork, Tree.holds_next, if_true, Tree.holds_cond, Tree.holds_letv, Tree.holds_leaf, Tree.holds_fail, decO, decA, decTup, decMach, decCore, decTrap, decInstr, decPart, decGuest, decConf, decEvent, decVcpu, decStep, bytesS, boolS, eventsS, intsS, guestsS, vcpusS, rowS, castL, Option.bind_some, Option.map_some, Option.some.injEq, Nat.beq_refl, beq_self_eq_true, Bool.and_self, cond_true, cond_false, eq_self, beq_iff_eq, beq_eq_false_iff_ne, bne_iff_ne, bne_eq_false_iff_eq, ne_eq, decide_eq_true_eq, decide_eq_false_iff_not, ble_true, ble_false, inRange_iff, inRange_false, List.drop_zero, Int.ofNat_eq_natCast, Int.toNat_natCast, List.take_length, List.append_eq, Bool.and_eq_true, decide_true, and_true, true_and, hi, if_true, wrap_inc ok_v.done]
  generalize (IntKind.u32.wrap (1 + IntKind.u32.wrap (IntKind.u32.wrap ((v.core.csr.getD 0 0).tdiv 4) * 4))) = y at *
  have su : (v.core.csr.set 0 y).getD 0 0 = y := by rw [K.set_at (by omega), if_pos rfl]
  have hm : ([0, 0, 0, 0, 0, 0, 0, 0, 0, 0, 0, 0, 0, 0, 0, 0] : List Int).length = 16 := rfl
  generalize ([0, 0, 0, 0, 0, 0, 0, 0, 0, 0, 0, 0, 0, 0, 0, 0] : List Int) = z at *
  have hml : (K.st z 8 4 w).length = 16 := by rw [← hm]; exact st_len z 8 4 w
  have key : v.halted = false → (K.decode w).2 = true → K.privd (K.decode w).1.op = true → K.step { core := { regs := v.core.regs, pc := 8, csr := v.core.csr.set 0 y }, mem := K.st z 8 4 w, time := time, out := v.out, halted := false } =
      ({ core := (K.emu { core := { regs := v.core.regs, pc := 8, csr := v.core.csr.set 0 y }, out := v.out, halted := v.halted, done := v.done, log := v.log } w time).core, mem := K.st z 8 4 w, time := (time + 1) % 18446744073709551616, out := (K.emu { core := { regs := v.core.regs, pc := 8, csr := v.core.csr.set 0 y }, out := v.out, halted := v.halted, done := v.done, log := v.log } w time).out, halted := (K.emu { core := { regs := v.core.regs, pc := 8, csr := v.core.csr.set 0 y }, out := v.out, halted := v.halted, done := v.done, log := v.log } w time).halted }, ⟨0, 0⟩) := fun h0 h1 h2 => by
    have hp : K.isPriv w = true := by simp only [K.isPriv, h1, h2]; rfl
    rw [step_priv (w := w) rfl (by rw [su]; exact hy) ?_ h1 h2]
    · obtain ⟨q1, q2, q3⟩ := priv_any { regs := v.core.regs, pc := 8, csr := v.core.csr.set 0 y } (K.st z 8 4 w) [] time v.out false (K.decode w).1
      rw [emu_core, emu_out, emu_halted, if_pos hp, if_pos hp, if_pos hp]
      unfold K.endS
      rw [enter_none, K.priv_mem, K.priv_time, q1, q2, q3, ← h0]
      rfl
    · have hsu : K.super { regs := v.core.regs, pc := 8, csr := v.core.csr.set 0 y } = true := by unfold K.super; simp only [su]; simp only [beq_iff_eq]; omega
      have hc : K.cell { core := { regs := v.core.regs, pc := 8, csr := v.core.csr.set 0 y }, mem := K.st z 8 4 w, time := time, out := v.out, halted := false } 8 4 = (8, ⟨0, 0⟩) := by
        unfold K.cell K.trans
        simp only [hsu, hml, if_true]
        decide
      unfold K.load
      simp only [hc, if_true]
      have := ld_st4 (m := z) (a := 8) (w := w) (by omega) w0 w1
      simp only [show ((8 : Nat) : Int) = 8 from rfl] at this
      rw [this]
  have dn : K.privd (K.decode w).1.op = true → (K.decode w).2 = true → (K.emu { core := { regs := v.core.regs, pc := 8, csr := v.core.csr.set 0 y }, out := v.out, halted := v.halted, done := v.done, log := v.log } w time).done = K.inc v.done := fun h1 h2 => by
    rw [emu_done, if_pos (by simp only [K.isPriv, h1, h2]; rfl)]
  repeat' (first | refine drop_ok ?_ | intro _ | with_reducible apply And.intro)
  all_goals try (rw [key (by assumption) (by assumption) (by assumption)] at *)
  all_goals first | rfl | trivial | contradiction | (exfalso; first | exact absurd (f5 (by assumption)) (by assumption) | (have := f5 (by assumption); omega) | exact absurd (dn (by assumption) (by assumption)) (by assumption) | (clear key f5 dn; simp_all; done))
  
theorem c_law19_EmulationMatchesStep : SpecOk EB_0_1_2 10 S_law19_EmulationMatchesStep := spec_sig ok_law19_EmulationMatchesStep (n := 60) fun ⟨v, w, time, ⟨⟩⟩ h hok => a_law19_EmulationMatchesStep v w time (ok_vcpu (okSL_head hok)) (ok_int (okSL_head (okSL_tail hok))) (ok_int (okSL_head (okSL_tail (okSL_tail hok))))


end Go.Proofs.YtnhokcnnhmkbhaaDoor
