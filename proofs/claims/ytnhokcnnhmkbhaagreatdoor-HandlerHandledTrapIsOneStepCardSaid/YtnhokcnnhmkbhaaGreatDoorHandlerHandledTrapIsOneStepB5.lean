/- Contracts of functions, by evaluation (nothing is claimed here). -/
import Derived.Test.YtnhokcnnhmkbhaaGreatDoorSh29
import Derived.KernelRfl
import Derived.Test.YtnhokcnnhmkbhaaGreatDoorProg
import Derived.Test.YtnhokcnnhmkbhaaGreatDoorHandlerHandledTrapIsOneStepB4
set_option linter.unusedVariables false
set_option linter.unusedSimpArgs false
set_option maxRecDepth 100000
set_option maxHeartbeats 1000000
namespace Go.Proofs.YtnhokcnnhmkbhaaGreatDoor
open Go
/-! trap_InterruptsEnabled -/

def S_trap_InterruptsEnabled : Spec := sig [.core] [.b] (fun (c, _) => K.ie c)
noncomputable def E_trap_InterruptsEnabled : Env := EB.adds []

theorem ok_trap_InterruptsEnabled : EnvOk E_trap_InterruptsEnabled := okEB.adds (l := _) trivial

theorem t_trap_InterruptsEnabled (c : PCore) : evF E_trap_InterruptsEnabled 60 47 (encArgs [.core] (c, ())) = 
  bif (bne (andI IntKind.u32 (List.getD c.csr 0 (0 : Int)) (2 : Int)) (0 : Int)) then
    (Tree.leaf (SV.b true))
  else
    (Tree.leaf (SV.b false)) := by kernel_rfl
section
attribute [local irreducible] evF evFL
theorem a_trap_InterruptsEnabled (c : PCore) (ok_c : okCore c) : (evF E_trap_InterruptsEnabled 60 47 (encArgs [.core] (c, ()))).ends fun out_ => decO [.b] out_ = some (K.ie c) := by
  rw [t_trap_InterruptsEnabled, Tree.ends_holds]
  obtain ⟨s0, s1⟩ := ok_c.csr.u32 (i := 0) (by omega)
  simp only [Tree.holds_loop, Tree.holds_fork, Tree.holds_next, if_true, Tree.holds_cond, Tree.holds_letv, Tree.holds_leaf, Tree.holds_fail, decO, decA, decTup, decMach, decCore, decTrap, decInstr, decPart, decGuest, decConf, decEvent, decVcpu, decStep, bytesS, boolS, eventsS, intsS, guestsS, vcpusS, rowS, castL, Option.bind_some, Option.map_some, Option.some.injEq, Nat.beq_refl, beq_self_eq_true, Bool.and_self, cond_true, cond_false, eq_self, beq_iff_eq, beq_eq_false_iff_ne, bne_iff_ne, bne_eq_false_iff_eq, ne_eq, decide_eq_true_eq, decide_eq_false_iff_not, ble_true, ble_false, inRange_iff, inRange_false, K.ie, and_2 s0 s1]
  repeat' (first | refine drop_ok ?_ | intro _ | with_reducible apply And.intro)
  all_goals (simp_all; try omega)
  
theorem c_trap_InterruptsEnabled : SpecOk EB 47 S_trap_InterruptsEnabled := spec_sig ok_trap_InterruptsEnabled (n := 60) fun ⟨c, ⟨⟩⟩ h hok => a_trap_InterruptsEnabled c (ok_core (okSL_head hok))
end

/-! csr_TimerCompare -/

def S_csr_TimerCompare : Spec := sig [.a .u32 12] [.i .u64] (fun (c, _) => K.cmp c)
noncomputable def E_csr_TimerCompare : Env := EB.adds []

theorem ok_csr_TimerCompare : EnvOk E_csr_TimerCompare := okEB.adds (l := _) trivial

theorem t_csr_TimerCompare (c : List Int) : evF E_csr_TimerCompare 60 48 (encArgs [.a .u32 12] (c, ())) = 
  Tree.leaf (SV.v (Value.int IntKind.u64 (orI IntKind.u64 (IntKind.wrap IntKind.u64 ((IntKind.wrap IntKind.u64 (List.getD c 10 (0 : Int))) * (4294967296 : Int))) (IntKind.wrap IntKind.u64 (List.getD c 9 (0 : Int)))))) := by kernel_rfl
section
attribute [local irreducible] evF evFL
theorem a_csr_TimerCompare (c : List Int) (ok_c : okL .u32 12 c) : (evF E_csr_TimerCompare 60 48 (encArgs [.a .u32 12] (c, ()))).ends fun out_ => decO [.i .u64] out_ = some (K.cmp c) := by
  rw [t_csr_TimerCompare, Tree.ends_holds]
  obtain ⟨a0, a1⟩ := ok_c.u32 (i := 9) (by omega)
  obtain ⟨b0, b1⟩ := ok_c.u32 (i := 10) (by omega)
  simp only [Tree.holds_loop, Tree.holds_fork, Tree.holds_next, if_true, Tree.holds_cond, Tree.holds_letv, Tree.holds_leaf, Tree.holds_fail, decO, decA, decTup, decMach, decCore, decTrap, decInstr, decPart, decGuest, decConf, decEvent, decVcpu, decStep, bytesS, boolS, eventsS, intsS, guestsS, vcpusS, rowS, castL, Option.bind_some, Option.map_some, Option.some.injEq, Nat.beq_refl, beq_self_eq_true, Bool.and_self, cond_true, cond_false, eq_self, K.cmp]
  generalize c.getD 9 0 = a at *
  generalize c.getD 10 0 = b at *
  rw [show IntKind.u64.wrap (IntKind.u64.wrap b * 4294967296) = b * 4294967296 by rw [wrap64, wrap64]; omega, show IntKind.u64.wrap a = a by rw [wrap64]; omega]
  obtain ⟨x, rfl⟩ := Int.eq_ofNat_of_zero_le a0
  obtain ⟨y, rfl⟩ := Int.eq_ofNat_of_zero_le b0
  have e : (y : Int) * 4294967296 = ((2 ^ 32 * y : Nat) : Int) := by rw [Int.natCast_mul, Int.mul_comm]; rfl
  rw [e, or64_nat (by omega) (by omega)]
  have := Nat.two_pow_add_eq_or_of_lt (show x < 2 ^ 32 by omega) y
  rw [← this]; rfl
  
theorem c_csr_TimerCompare : SpecOk EB 48 S_csr_TimerCompare := spec_sig ok_csr_TimerCompare (n := 60) fun ⟨c, ⟨⟩⟩ h hok => a_csr_TimerCompare c (ok_arr (okSL_head hok))
end

/-! fetch_TimerPending -/

def S_fetch_TimerPending : Spec := sig [.mach] [.b] (fun (m, _) => K.due m)
noncomputable def E_fetch_TimerPending : Env := EB.adds [(47, S_trap_InterruptsEnabled), (48, S_csr_TimerCompare)]

theorem ok_fetch_TimerPending : EnvOk E_fetch_TimerPending := okEB.adds (l := _) ⟨c_trap_InterruptsEnabled, c_csr_TimerCompare, trivial⟩

theorem t_fetch_TimerPending (m : PMach) : evF E_fetch_TimerPending 60 24 (encArgs [.mach] (m, ())) = 
  Tree.letv (okO [AT.b]) (K.ie m.core) fun x0 =>
  (bif x0 then
    (Tree.letv (okO [(AT.i IntKind.u64)]) (K.cmp m.core.csr) fun x1 =>
    (bif (decide (m.time ≥ x1)) then
      (Tree.leaf (SV.b true))
    else
      (Tree.leaf (SV.b false))))
  else
    (Tree.leaf (SV.b false))) := by kernel_rfl
section
attribute [local irreducible] evF evFL
theorem a_fetch_TimerPending (m : PMach) (ok_m : okMach m) : (evF E_fetch_TimerPending 60 24 (encArgs [.mach] (m, ()))).ends fun out_ => decO [.b] out_ = some (K.due m) := by
  rw [t_fetch_TimerPending, Tree.ends_holds]
  simp only [Tree.holds_loop, Tree.holds_fork, Tree.holds_next, if_true, Tree.holds_cond, Tree.holds_letv, Tree.holds_leaf, Tree.holds_fail, decO, decA, decTup, decMach, decCore, decTrap, decInstr, decPart, decGuest, decConf, decEvent, decVcpu, decStep, bytesS, boolS, eventsS, intsS, guestsS, vcpusS, rowS, castL, Option.bind_some, Option.map_some, Option.some.injEq, Nat.beq_refl, beq_self_eq_true, Bool.and_self, cond_true, cond_false, eq_self, beq_iff_eq, beq_eq_false_iff_ne, bne_iff_ne, bne_eq_false_iff_eq, ne_eq, decide_eq_true_eq, decide_eq_false_iff_not, ble_true, ble_false, inRange_iff, inRange_false, K.due]
  repeat' (first | refine drop_ok ?_ | intro _ | with_reducible apply And.intro)
  all_goals simp_all
  
theorem c_fetch_TimerPending : SpecOk EB 24 S_fetch_TimerPending := spec_sig ok_fetch_TimerPending (n := 60) fun ⟨m, ⟨⟩⟩ h hok => a_fetch_TimerPending m (ok_mach (okSL_head hok))
end

/-! step_end -/

def S_step_end : Spec := sig [.mach, .trap] [.mach, .trap] (fun (m, t, _) => K.endS m t)
noncomputable def E_step_end : Env := EB.adds [(49, S_trap_Enter)]

theorem ok_step_end : EnvOk E_step_end := okEB.adds (l := _) ⟨c_trap_Enter, trivial⟩

theorem t_step_end (m : PMach) (t : PTrap) : evF E_step_end 60 25 (encArgs [.mach, .trap] (m, t, ())) = 
  Tree.letv (okO [AT.core]) (K.enter m.core t) fun x0 =>
  (Tree.leaf (SV.tup [(SV.agg [(SV.arr IntKind.u32 16 x0.regs), (SV.v (Value.int IntKind.u32 x0.pc)), (SV.arr IntKind.u32 12 x0.csr), (SV.rd ETy.u8 m.mem), (SV.v (Value.int IntKind.u64 (IntKind.wrap IntKind.u64 (m.time + (1 : Int))))), (SV.rd ETy.u8 m.out), (SV.v (Value.bool m.halted))]), (SV.agg [(SV.v (Value.int IntKind.i64 t.cause)), (SV.v (Value.int IntKind.u32 t.tval))])])) := by kernel_rfl
section
attribute [local irreducible] evF evFL
theorem a_step_end (m : PMach) (t : PTrap) (ok_m : okMach m) (ok_t : okTrap t) : (evF E_step_end 60 25 (encArgs [.mach, .trap] (m, t, ()))).ends fun out_ => decO [.mach, .trap] out_ = some (K.endS m t) := by
  rw [t_step_end, Tree.ends_holds]
  simp only [Tree.holds_loop, Tree.holds_fork, Tree.holds_next, if_true, Tree.holds_cond, Tree.holds_letv, Tree.holds_leaf, Tree.holds_fail, decO, decA, decTup, decMach, decCore, decTrap, decInstr, decPart, decGuest, decConf, decEvent, decVcpu, decStep, bytesS, boolS, eventsS, intsS, guestsS, vcpusS, rowS, castL, Option.bind_some, Option.map_some, Option.some.injEq, Nat.beq_refl, beq_self_eq_true, Bool.and_self, cond_true, cond_false, eq_self, K.endS, wrap64]
  repeat' (first | refine drop_ok ?_ | intro _ | with_reducible apply And.intro)
  all_goals simp_all
  
theorem c_step_end : SpecOk EB 25 S_step_end := spec_sig ok_step_end (n := 60) fun ⟨m, t, ⟨⟩⟩ h hok => a_step_end m t (ok_mach (okSL_head hok)) (ok_trap (okSL_head (okSL_tail hok)))
end

/-! reloc_Translate -/

def S_reloc_Translate : Spec := sig [.i .u32, .i .u32, .i .u32, .i .u32, .i .i64] [.i .u32, .b] (fun (base, bound, size, a, n, _) => K.reloc base bound size a n) (pre := fun (base, bound, size, a, n, _) => decide (0 ≤ n ∧ n ≤ 1099511627776))
noncomputable def E_reloc_Translate : Env := EB.adds []

theorem ok_reloc_Translate : EnvOk E_reloc_Translate := okEB.adds (l := _) trivial

theorem t_reloc_Translate (base : Int) (bound : Int) (size : Int) (a : Int) (n : Int) : evF E_reloc_Translate 60 149 (encArgs [.i .u32, .i .u32, .i .u32, .i .u32, .i .i64] (base, bound, size, a, n, ())) = 
  bif (decide ((IntKind.wrap IntKind.u64 ((IntKind.wrap IntKind.u64 a) + (IntKind.wrap IntKind.u64 n))) > (IntKind.wrap IntKind.u64 bound))) then
    (Tree.leaf (SV.tup [(SV.v (Value.int IntKind.u32 (0 : Int))), (SV.b false)]))
  else
    (bif (decide ((IntKind.wrap IntKind.u64 ((IntKind.wrap IntKind.u64 base) + (IntKind.wrap IntKind.u64 ((IntKind.wrap IntKind.u64 a) + (IntKind.wrap IntKind.u64 n))))) > (IntKind.wrap IntKind.u64 size))) then
      (Tree.leaf (SV.tup [(SV.v (Value.int IntKind.u32 (0 : Int))), (SV.b false)]))
    else
      (Tree.leaf (SV.tup [(SV.v (Value.int IntKind.u32 (IntKind.wrap IntKind.u32 (base + a)))), (SV.b true)]))) := by kernel_rfl
section
attribute [local irreducible] evF evFL
theorem a_reloc_Translate (base : Int) (bound : Int) (size : Int) (a : Int) (n : Int) (hpre : 0 ≤ n ∧ n ≤ 1099511627776) (ok_base : okI .u32 base) (ok_bound : okI .u32 bound) (ok_size : okI .u32 size) (ok_a : okI .u32 a) (ok_n : okI .i64 n) : (evF E_reloc_Translate 60 149 (encArgs [.i .u32, .i .u32, .i .u32, .i .u32, .i .i64] (base, bound, size, a, n, ()))).ends fun out_ => decO [.i .u32, .b] out_ = some (K.reloc base bound size a n) := by
  rw [t_reloc_Translate, Tree.ends_holds]
  obtain ⟨a0, a1⟩ := okI_u32 ok_a
  obtain ⟨b0, b1⟩ := okI_u32 ok_base
  obtain ⟨c0, c1⟩ := okI_u32 ok_bound
  obtain ⟨d0, d1⟩ := okI_u32 ok_size
  have e1 : IntKind.u64.wrap a = a := by rw [wrap64]; omega
  have e2 : IntKind.u64.wrap n = n := by rw [wrap64]; omega
  have e3 : IntKind.u64.wrap size = size := by rw [wrap64]; omega
  have e4 : IntKind.u64.wrap (a + n) = a + n := by rw [wrap64]; omega
  have e5 : IntKind.u64.wrap base = base := by rw [wrap64]; omega
  have e6 : IntKind.u64.wrap bound = bound := by rw [wrap64]; omega
  have e7 : IntKind.u64.wrap (base + (a + n)) = base + (a + n) := by rw [wrap64]; omega
  simp only [Tree.holds_loop, Tree.holds_fork, Tree.holds_next, if_true, Tree.holds_cond, Tree.holds_letv, Tree.holds_leaf, Tree.holds_fail, decO, decA, decTup, decMach, decCore, decTrap, decInstr, decPart, decGuest, decConf, decEvent, decVcpu, decStep, bytesS, boolS, eventsS, intsS, guestsS, vcpusS, rowS, castL, Option.bind_some, Option.map_some, Option.some.injEq, Nat.beq_refl, beq_self_eq_true, Bool.and_self, cond_true, cond_false, eq_self, beq_iff_eq, beq_eq_false_iff_ne, bne_iff_ne, bne_eq_false_iff_eq, ne_eq, decide_eq_true_eq, decide_eq_false_iff_not, ble_true, ble_false, inRange_iff, inRange_false, K.reloc, e1, e2, e3, e4, e5, e6, e7]
  repeat' (first | refine drop_ok ?_ | intro _ | with_reducible apply And.intro)
  · rw [if_neg (by omega)]
  · rw [if_neg (by omega)]
  · rw [if_pos (by omega), show IntKind.u32.wrap (base + a) = base + a by rw [wrap32]; omega]
  
theorem c_reloc_Translate : SpecOk EB 149 S_reloc_Translate := spec_sig ok_reloc_Translate (n := 60) fun ⟨base, bound, size, a, n, ⟨⟩⟩ h hok => a_reloc_Translate base bound size a n (of_decide_eq_true h) (ok_int (okSL_head hok)) (ok_int (okSL_head (okSL_tail hok))) (ok_int (okSL_head (okSL_tail (okSL_tail hok)))) (ok_int (okSL_head (okSL_tail (okSL_tail (okSL_tail hok))))) (ok_int (okSL_head (okSL_tail (okSL_tail (okSL_tail (okSL_tail hok))))))
end

/-! reloc_TranslateCore -/

def S_reloc_TranslateCore : Spec := sig [.core, .i .u32, .i .u32, .i .i64] [.i .u32, .b] (fun (c, size, a, n, _) => K.trans c size a n) (pre := fun (c, size, a, n, _) => decide (0 ≤ n ∧ n ≤ 1099511627776))
noncomputable def E_reloc_TranslateCore : Env := EB.adds [(149, S_reloc_Translate)]

theorem ok_reloc_TranslateCore : EnvOk E_reloc_TranslateCore := okEB.adds (l := _) ⟨c_reloc_Translate, trivial⟩

theorem t_reloc_TranslateCore (c : PCore) (size : Int) (a : Int) (n : Int) : evF E_reloc_TranslateCore 60 136 (encArgs [.core, .i .u32, .i .u32, .i .i64] (c, size, a, n, ())) = 
  bif (bne (andI IntKind.u32 (List.getD c.csr 0 (0 : Int)) (1 : Int)) (0 : Int)) then
    (bif (decide (And ((0 : Int) ≤ n) (n ≤ (1099511627776 : Int)))) then
      (Tree.letv (okO [(AT.i IntKind.u32), AT.b]) (K.reloc (0 : Int) size size a n) fun x0 =>
      (bif x0.snd then
        (Tree.leaf (SV.tup [(SV.v (Value.int IntKind.u32 x0.fst)), (SV.b true)]))
      else
        (Tree.leaf (SV.tup [(SV.v (Value.int IntKind.u32 x0.fst)), (SV.b false)]))))
    else
      (Tree.fail))
  else
    (bif (decide (And ((0 : Int) ≤ n) (n ≤ (1099511627776 : Int)))) then
      (Tree.letv (okO [(AT.i IntKind.u32), AT.b]) (K.reloc (List.getD c.csr 5 (0 : Int)) (List.getD c.csr 6 (0 : Int)) size a n) fun x0 =>
      (bif x0.snd then
        (Tree.leaf (SV.tup [(SV.v (Value.int IntKind.u32 x0.fst)), (SV.b true)]))
      else
        (Tree.leaf (SV.tup [(SV.v (Value.int IntKind.u32 x0.fst)), (SV.b false)]))))
    else
      (Tree.fail)) := by kernel_rfl
section
attribute [local irreducible] evF evFL
theorem a_reloc_TranslateCore (c : PCore) (size : Int) (a : Int) (n : Int) (hpre : 0 ≤ n ∧ n ≤ 1099511627776) (ok_c : okCore c) (ok_size : okI .u32 size) (ok_a : okI .u32 a) (ok_n : okI .i64 n) : (evF E_reloc_TranslateCore 60 136 (encArgs [.core, .i .u32, .i .u32, .i .i64] (c, size, a, n, ()))).ends fun out_ => decO [.i .u32, .b] out_ = some (K.trans c size a n) := by
  rw [t_reloc_TranslateCore, Tree.ends_holds]
  obtain ⟨s0, s1⟩ := ok_c.csr.u32 (i := 0) (by omega)
  simp only [Tree.holds_loop, Tree.holds_fork, Tree.holds_next, if_true, Tree.holds_cond, Tree.holds_letv, Tree.holds_leaf, Tree.holds_fail, decO, decA, decTup, decMach, decCore, decTrap, decInstr, decPart, decGuest, decConf, decEvent, decVcpu, decStep, bytesS, boolS, eventsS, intsS, guestsS, vcpusS, rowS, castL, Option.bind_some, Option.map_some, Option.some.injEq, Nat.beq_refl, beq_self_eq_true, Bool.and_self, cond_true, cond_false, eq_self, beq_iff_eq, beq_eq_false_iff_ne, bne_iff_ne, bne_eq_false_iff_eq, ne_eq, decide_eq_true_eq, decide_eq_false_iff_not, ble_true, ble_false, inRange_iff, inRange_false, and_1 s0 s1]
  have h1 : ¬ c.csr.getD 0 0 % 2 = 0 → K.trans c size a n = K.reloc 0 size size a n := fun h => by unfold K.trans K.super; rw [if_pos (by simp only [beq_iff_eq]; omega)]
  have h2 : c.csr.getD 0 0 % 2 = 0 → K.trans c size a n = K.reloc (c.csr.getD 5 0) (c.csr.getD 6 0) size a n := fun h => by unfold K.trans K.super; rw [if_neg (by rw [h]; decide)]
  repeat' (first | refine drop_ok ?_ | intro _ | with_reducible apply And.intro)
  all_goals first | omega | (rename_i q; rw [← q]; first | rw [h1 (by assumption)] | rw [h2 (by assumption)])
  
theorem c_reloc_TranslateCore : SpecOk EB 136 S_reloc_TranslateCore := spec_sig ok_reloc_TranslateCore (n := 60) fun ⟨c, size, a, n, ⟨⟩⟩ h hok => a_reloc_TranslateCore c size a n (of_decide_eq_true h) (ok_core (okSL_head hok)) (ok_int (okSL_head (okSL_tail hok))) (ok_int (okSL_head (okSL_tail (okSL_tail hok)))) (ok_int (okSL_head (okSL_tail (okSL_tail (okSL_tail hok)))))
end

/-! fetch_Resolve -/

def S_fetch_Resolve : Spec := sig [.mach, .i .u32, .i .i64] [.i .u32, .trap] (fun (m, a, n, _) => K.cell m a n) (pre := fun (m, a, n, _) => decide (n = 1 ∨ n = 4))
noncomputable def E_fetch_Resolve : Env := EB_2.adds [(136, S_reloc_TranslateCore)]

theorem ok_fetch_Resolve : EnvOk E_fetch_Resolve := okEB_2.adds (l := _) ⟨(up_to_2 c_reloc_TranslateCore), trivial⟩

theorem t_fetch_Resolve (m : PMach) (a : Int) (n : Int) : evF E_fetch_Resolve 60 126 (encArgs [.mach, .i .u32, .i .i64] (m, a, n, ())) = 
  bif (bne (IntKind.wrap IntKind.u32 n) (0 : Int)) then
    (bif (bne (Int.tmod a (IntKind.wrap IntKind.u32 n)) (0 : Int)) then
      (Tree.leaf (SV.tup [(SV.v (Value.int IntKind.u32 (0 : Int))), (SV.agg [(SV.v (Value.int IntKind.i64 (4 : Int))), (SV.v (Value.int IntKind.u32 a))])]))
    else
      (bif (decide (And ((0 : Int) ≤ n) (n ≤ (1099511627776 : Int)))) then
        (Tree.letv (okO [(AT.i IntKind.u32), AT.b]) (K.trans m.core (IntKind.wrap IntKind.u32 (Int.ofNat (List.length m.mem))) a n) fun x0 =>
        (bif x0.snd then
          (Tree.leaf (SV.tup [(SV.v (Value.int IntKind.u32 x0.fst)), (SV.agg [(SV.v (Value.int IntKind.i64 (0 : Int))), (SV.v (Value.int IntKind.u32 (0 : Int)))])]))
        else
          (Tree.leaf (SV.tup [(SV.v (Value.int IntKind.u32 (0 : Int))), (SV.agg [(SV.v (Value.int IntKind.i64 (3 : Int))), (SV.v (Value.int IntKind.u32 a))])]))))
      else
        (Tree.fail)))
  else
    (Tree.fail) := by kernel_rfl
section
attribute [local irreducible] evF evFL
theorem a_fetch_Resolve (m : PMach) (a : Int) (n : Int) (hpre : n = 1 ∨ n = 4) (ok_m : okMach m) (ok_a : okI .u32 a) (ok_n : okI .i64 n) : (evF E_fetch_Resolve 60 126 (encArgs [.mach, .i .u32, .i .i64] (m, a, n, ()))).ends fun out_ => decO [.i .u32, .trap] out_ = some (K.cell m a n) := by
  rw [t_fetch_Resolve, Tree.ends_holds]
  obtain ⟨a0, a1⟩ := okI_u32 ok_a
  have hn : 1 ≤ n ∧ n ≤ 4 := by omega
  have e1 : IntKind.u32.wrap n = n := by rw [wrap32]; omega
  have e2 : Int.tmod a n = a % n := Int.tmod_eq_emod_of_nonneg a0
  have e3 : IntKind.u32.wrap (m.mem.length : Int) = (m.mem.length : Int) % 4294967296 := wrap32 _
  simp only [Tree.holds_loop, Tree.holds_fork, Tree.holds_next, if_true, Tree.holds_cond, Tree.holds_letv, Tree.holds_leaf, Tree.holds_fail, decO, decA, decTup, decMach, decCore, decTrap, decInstr, decPart, decGuest, decConf, decEvent, decVcpu, decStep, bytesS, boolS, eventsS, intsS, guestsS, vcpusS, rowS, castL, Option.bind_some, Option.map_some, Option.some.injEq, Nat.beq_refl, beq_self_eq_true, Bool.and_self, cond_true, cond_false, eq_self, beq_iff_eq, beq_eq_false_iff_ne, bne_iff_ne, bne_eq_false_iff_eq, ne_eq, decide_eq_true_eq, decide_eq_false_iff_not, ble_true, ble_false, inRange_iff, inRange_false, Int.ofNat_eq_natCast, e1, e2, e3, K.cell]
  repeat' (first | refine drop_ok ?_ | intro _ | with_reducible apply And.intro)
  all_goals first | omega | (simp_all; done)
  
theorem c_fetch_Resolve : SpecOk EB_2 126 S_fetch_Resolve := spec_sig ok_fetch_Resolve (n := 60) fun ⟨m, a, n, ⟨⟩⟩ h hok => a_fetch_Resolve m a n (of_decide_eq_true h) (ok_mach (okSL_head hok)) (ok_int (okSL_head (okSL_tail hok))) (ok_int (okSL_head (okSL_tail (okSL_tail hok))))
end

/-! mem_InRange -/

def S_mem_InRange : Spec := sig [.i .i64, .i .u32, .i .i64] [.b] (fun (size, a, n, _) => K.inR size a n) (pre := fun (size, a, n, _) => decide (0 ≤ n ∧ n ≤ 1099511627776 ∧ 0 ≤ size))
noncomputable def E_mem_InRange : Env := EB.adds []

theorem ok_mem_InRange : EnvOk E_mem_InRange := okEB.adds (l := _) trivial

theorem t_mem_InRange (size : Int) (a : Int) (n : Int) : evF E_mem_InRange 60 137 (encArgs [.i .i64, .i .u32, .i .i64] (size, a, n, ())) = 
  bif (decide ((IntKind.wrap IntKind.u64 ((IntKind.wrap IntKind.u64 a) + (IntKind.wrap IntKind.u64 n))) ≤ (IntKind.wrap IntKind.u64 size))) then
    (Tree.leaf (SV.b true))
  else
    (Tree.leaf (SV.b false)) := by kernel_rfl
section
attribute [local irreducible] evF evFL
theorem a_mem_InRange (size : Int) (a : Int) (n : Int) (hpre : 0 ≤ n ∧ n ≤ 1099511627776 ∧ 0 ≤ size) (ok_size : okI .i64 size) (ok_a : okI .u32 a) (ok_n : okI .i64 n) : (evF E_mem_InRange 60 137 (encArgs [.i .i64, .i .u32, .i .i64] (size, a, n, ()))).ends fun out_ => decO [.b] out_ = some (K.inR size a n) := by
  rw [t_mem_InRange, Tree.ends_holds]
  obtain ⟨a0, a1⟩ := okI_u32 ok_a
  obtain ⟨s0, s1⟩ := okI_i64 ok_size
  have e1 : IntKind.u64.wrap a = a := by rw [wrap64]; omega
  have e2 : IntKind.u64.wrap n = n := by rw [wrap64]; omega
  have e3 : IntKind.u64.wrap size = size := by rw [wrap64]; omega
  have e4 : IntKind.u64.wrap (a + n) = a + n := by rw [wrap64]; omega
  simp only [Tree.holds_loop, Tree.holds_fork, Tree.holds_next, if_true, Tree.holds_cond, Tree.holds_letv, Tree.holds_leaf, Tree.holds_fail, decO, decA, decTup, decMach, decCore, decTrap, decInstr, decPart, decGuest, decConf, decEvent, decVcpu, decStep, bytesS, boolS, eventsS, intsS, guestsS, vcpusS, rowS, castL, Option.bind_some, Option.map_some, Option.some.injEq, Nat.beq_refl, beq_self_eq_true, Bool.and_self, cond_true, cond_false, eq_self, beq_iff_eq, beq_eq_false_iff_ne, bne_iff_ne, bne_eq_false_iff_eq, ne_eq, decide_eq_true_eq, decide_eq_false_iff_not, ble_true, ble_false, inRange_iff, inRange_false, K.inR, e1, e2, e3, e4]
  repeat' (first | refine drop_ok ?_ | intro _ | with_reducible apply And.intro)
  all_goals simp_all
  
theorem c_mem_InRange : SpecOk EB 137 S_mem_InRange := spec_sig ok_mem_InRange (n := 60) fun ⟨size, a, n, ⟨⟩⟩ h hok => a_mem_InRange size a n (of_decide_eq_true h) (ok_int (okSL_head hok)) (ok_int (okSL_head (okSL_tail hok))) (ok_int (okSL_head (okSL_tail (okSL_tail hok))))
end

/-! mem_Load -/

def S_mem_Load : Spec := sig [.rd .u8, .i .u32, .i .i64] [.i .u32, .b] (fun (m, a, n, _) => if K.inR m.length a n = true then (K.ld m a n, true) else (0, false)) (pre := fun (m, a, n, _) => decide (n = 1 ∨ n = 4))
noncomputable def E_mem_Load : Env := EB.adds [(137, S_mem_InRange)]

theorem ok_mem_Load : EnvOk E_mem_Load := okEB.adds (l := _) ⟨c_mem_InRange, trivial⟩
theorem t1_c_mem_Load (m : List Int) (a : Int) : evF E_mem_Load 60 127 [.rd .u8 m, .v (.int .u32 a), .v (.int .i64 1)] = 
  bif (decide (And ((0 : Int) ≤ (1 : Int)) (And ((1 : Int) ≤ (1099511627776 : Int)) ((0 : Int) ≤ (Int.ofNat (List.length m)))))) then
    (Tree.letv (okO [AT.b]) (K.inR (Int.ofNat (List.length m)) a (1 : Int)) fun x0 =>
    (bif x0 then
      (bif (inRange (IntKind.wrap IntKind.i64 ((IntKind.wrap IntKind.i64 a) + (0 : Int))) (List.length m)) then
        (Tree.leaf (SV.tup [(SV.v (Value.int IntKind.u32 (orI IntKind.u32 (0 : Int) (IntKind.wrap IntKind.u32 ((IntKind.wrap IntKind.u32 (List.getD m (Int.toNat (IntKind.wrap IntKind.i64 ((IntKind.wrap IntKind.i64 a) + (0 : Int)))) (0 : Int))) * (1 : Int)))))), (SV.b true)]))
      else
        (Tree.fail))
    else
      (Tree.leaf (SV.tup [(SV.v (Value.int IntKind.u32 (0 : Int))), (SV.b false)]))))
  else
    (Tree.fail) := by kernel_rfl
theorem t4_c_mem_Load (m : List Int) (a : Int) : evF E_mem_Load 60 127 [.rd .u8 m, .v (.int .u32 a), .v (.int .i64 4)] = 
  bif (decide (And ((0 : Int) ≤ (4 : Int)) (And ((4 : Int) ≤ (1099511627776 : Int)) ((0 : Int) ≤ (Int.ofNat (List.length m)))))) then
    (Tree.letv (okO [AT.b]) (K.inR (Int.ofNat (List.length m)) a (4 : Int)) fun x0 =>
    (bif x0 then
      (bif (inRange (IntKind.wrap IntKind.i64 ((IntKind.wrap IntKind.i64 a) + (0 : Int))) (List.length m)) then
        (bif (inRange (IntKind.wrap IntKind.i64 ((IntKind.wrap IntKind.i64 a) + (1 : Int))) (List.length m)) then
          (bif (inRange (IntKind.wrap IntKind.i64 ((IntKind.wrap IntKind.i64 a) + (2 : Int))) (List.length m)) then
            (bif (inRange (IntKind.wrap IntKind.i64 ((IntKind.wrap IntKind.i64 a) + (3 : Int))) (List.length m)) then
              (Tree.leaf (SV.tup [(SV.v (Value.int IntKind.u32 (orI IntKind.u32 (orI IntKind.u32 (orI IntKind.u32 (orI IntKind.u32 (0 : Int) (IntKind.wrap IntKind.u32 ((IntKind.wrap IntKind.u32 (List.getD m (Int.toNat (IntKind.wrap IntKind.i64 ((IntKind.wrap IntKind.i64 a) + (0 : Int)))) (0 : Int))) * (1 : Int)))) (IntKind.wrap IntKind.u32 ((IntKind.wrap IntKind.u32 (List.getD m (Int.toNat (IntKind.wrap IntKind.i64 ((IntKind.wrap IntKind.i64 a) + (1 : Int)))) (0 : Int))) * (256 : Int)))) (IntKind.wrap IntKind.u32 ((IntKind.wrap IntKind.u32 (List.getD m (Int.toNat (IntKind.wrap IntKind.i64 ((IntKind.wrap IntKind.i64 a) + (2 : Int)))) (0 : Int))) * (65536 : Int)))) (IntKind.wrap IntKind.u32 ((IntKind.wrap IntKind.u32 (List.getD m (Int.toNat (IntKind.wrap IntKind.i64 ((IntKind.wrap IntKind.i64 a) + (3 : Int)))) (0 : Int))) * (16777216 : Int)))))), (SV.b true)]))
            else
              (Tree.fail))
          else
            (Tree.fail))
        else
          (Tree.fail))
      else
        (Tree.fail))
    else
      (Tree.leaf (SV.tup [(SV.v (Value.int IntKind.u32 (0 : Int))), (SV.b false)]))))
  else
    (Tree.fail) := by kernel_rfl
theorem a1_c_mem_Load (m : List Int) (a : Int) (ok_m : okBytes m) (ok_a : okI .u32 a) : (evF E_mem_Load 60 127 [.rd .u8 m, .v (.int .u32 a), .v (.int .i64 1)]).ends fun out_ => decO [.i .u32, .b] out_ = some (if K.inR m.length a 1 = true then (K.ld m a 1, true) else (0, false)) := by
  rw [t1_c_mem_Load, Tree.ends_holds]
  obtain ⟨a0, a1⟩ := okI_u32 ok_a
  have b0 := byte_at ok_m a.toNat
  have i0 : IntKind.i64.wrap (IntKind.i64.wrap a + 0) = a := by rw [wrapI64 (by rw [wrapI64 (by omega) (by omega)]; omega) (by rw [wrapI64 (by omega) (by omega)]; omega), wrapI64 (by omega) (by omega)]; omega
  have v0 : IntKind.u32.wrap (IntKind.u32.wrap (m.getD a.toNat 0) * 1) = m.getD a.toNat 0 := by rw [wrap32, wrap32]; omega
  simp only [Tree.holds_loop, Tree.holds_fork, Tree.holds_next, if_true, Tree.holds_cond, Tree.holds_letv, Tree.holds_leaf, Tree.holds_fail, decO, decA, decTup, decMach, decCore, decTrap, decInstr, decPart, decGuest, decConf, decEvent, decVcpu, decStep, bytesS, boolS, eventsS, intsS, guestsS, vcpusS, rowS, castL, Option.bind_some, Option.map_some, Option.some.injEq, Nat.beq_refl, beq_self_eq_true, Bool.and_self, cond_true, cond_false, eq_self, beq_iff_eq, beq_eq_false_iff_ne, bne_iff_ne, bne_eq_false_iff_eq, ne_eq, decide_eq_true_eq, decide_eq_false_iff_not, ble_true, ble_false, inRange_iff, inRange_false, Int.ofNat_eq_natCast, i0, v0, or_zero b0.1 b0.2]
  repeat' (first | refine drop_ok ?_ | intro _ | with_reducible apply And.intro)
  all_goals first | (rw [if_pos (by assumption)]; rfl) | (rw [if_neg (by simp_all)]) | omega | (simp_all [K.inR]; omega)
theorem a4_c_mem_Load (m : List Int) (a : Int) (ok_m : okBytes m) (ok_a : okI .u32 a) : (evF E_mem_Load 60 127 [.rd .u8 m, .v (.int .u32 a), .v (.int .i64 4)]).ends fun out_ => decO [.i .u32, .b] out_ = some (if K.inR m.length a 4 = true then (K.ld m a 4, true) else (0, false)) := by
  rw [t4_c_mem_Load, Tree.ends_holds]
  obtain ⟨a0, a1⟩ := okI_u32 ok_a
  have ew : IntKind.i64.wrap a = a := wrapI64 (by omega) (by omega)
  have i0 : IntKind.i64.wrap (a + 0) = a := by rw [wrapI64 (by omega) (by omega)]; omega
  have i1 : IntKind.i64.wrap (a + 1) = a + 1 := wrapI64 (by omega) (by omega)
  have i2 : IntKind.i64.wrap (a + 2) = a + 2 := wrapI64 (by omega) (by omega)
  have i3 : IntKind.i64.wrap (a + 3) = a + 3 := wrapI64 (by omega) (by omega)
  have n1 : (a + 1).toNat = a.toNat + 1 := by omega
  have n2 : (a + 2).toNat = a.toNat + 2 := by omega
  have n3 : (a + 3).toNat = a.toNat + 3 := by omega
  obtain ⟨p0, q0⟩ := byte_at ok_m a.toNat
  obtain ⟨p1, q1⟩ := byte_at ok_m (a.toNat + 1)
  obtain ⟨p2, q2⟩ := byte_at ok_m (a.toNat + 2)
  obtain ⟨p3, q3⟩ := byte_at ok_m (a.toNat + 3)
  simp only [Tree.holds_loop, Tree.holds_fork, Tree.holds_next, if_true, Tree.holds_cond, Tree.holds_letv, Tree.holds_leaf, Tree.holds_fail, decO, decA, decTup, decMach, decCore, decTrap, decInstr, decPart, decGuest, decConf, decEvent, decVcpu, decStep, bytesS, boolS, eventsS, intsS, guestsS, vcpusS, rowS, castL, Option.bind_some, Option.map_some, Option.some.injEq, Nat.beq_refl, beq_self_eq_true, Bool.and_self, cond_true, cond_false, eq_self, beq_iff_eq, beq_eq_false_iff_ne, bne_iff_ne, bne_eq_false_iff_eq, ne_eq, decide_eq_true_eq, decide_eq_false_iff_not, ble_true, ble_false, inRange_iff, inRange_false, Int.ofNat_eq_natCast, ew, i0, i1, i2, i3, n1, n2, n3, wrap32, ld4 p0 q0 p1 q1 p2 q2 p3 q3]
  repeat' (first | refine drop_ok ?_ | intro _ | with_reducible apply And.intro)
  all_goals first | (rw [if_pos (by assumption)]; rfl) | (rw [if_neg (by simp_all)]) | omega | (simp_all [K.inR]; omega)
theorem c_mem_Load : SpecOk EB 127 S_mem_Load := spec_sig ok_mem_Load (n := 60) fun ⟨m, a, n, ⟨⟩⟩ h hok => by
  have h := of_decide_eq_true h
  have o1 := ok_bytes (okSL_head hok)
  have o2 := ok_int (okSL_head (okSL_tail hok))
  rcases h with h | h
  · have h : n = 1 := h
    subst h; exact a1_c_mem_Load m a o1 o2
  · have h : n = 4 := h
    subst h; exact a4_c_mem_Load m a o1 o2


/-! fetch_Load -/

def S_fetch_Load : Spec := sig [.mach, .i .u32, .i .i64] [.i .u32, .trap] (fun (m, a, n, _) => K.load m a n) (pre := fun (m, a, n, _) => decide (n = 1 ∨ n = 4))
noncomputable def E_fetch_Load : Env := EB_2.adds [(126, S_fetch_Resolve), (127, S_mem_Load)]

theorem ok_fetch_Load : EnvOk E_fetch_Load := okEB_2.adds (l := _) ⟨c_fetch_Resolve, (up_to_2 c_mem_Load), trivial⟩

theorem t_fetch_Load (m : PMach) (a : Int) (n : Int) : evF E_fetch_Load 60 107 (encArgs [.mach, .i .u32, .i .i64] (m, a, n, ())) = 
  bif (decide (Or (n = (1 : Int)) (n = (4 : Int)))) then
    (Tree.letv (okO [(AT.i IntKind.u32), AT.trap]) (K.cell m a n) fun x0 =>
    (bif (Bool.not (Bool.and (BEq.beq x0.snd.cause (0 : Int)) (Bool.and (BEq.beq x0.snd.tval (0 : Int)) true))) then
      (Tree.leaf (SV.tup [(SV.v (Value.int IntKind.u32 (0 : Int))), (SV.agg [(SV.v (Value.int IntKind.i64 x0.snd.cause)), (SV.v (Value.int IntKind.u32 x0.snd.tval))])]))
    else
      (bif (decide (Or (n = (1 : Int)) (n = (4 : Int)))) then
        (Tree.letv (okO [(AT.i IntKind.u32), AT.b]) (if ((K.inR (Int.ofNat (List.length m.mem)) x0.fst n) = true) then ((K.ld m.mem x0.fst n), true) else ((0 : Int), false)) fun x1 =>
        (bif x1.snd then
          (Tree.leaf (SV.tup [(SV.v (Value.int IntKind.u32 x1.fst)), (SV.agg [(SV.v (Value.int IntKind.i64 (0 : Int))), (SV.v (Value.int IntKind.u32 (0 : Int)))])]))
        else
          (Tree.leaf (SV.tup [(SV.v (Value.int IntKind.u32 x1.fst)), (SV.agg [(SV.v (Value.int IntKind.i64 (0 : Int))), (SV.v (Value.int IntKind.u32 (0 : Int)))])]))))
      else
        (Tree.fail))))
  else
    (Tree.fail) := by kernel_rfl
section
attribute [local irreducible] evF evFL
theorem a_fetch_Load (m : PMach) (a : Int) (n : Int) (hpre : n = 1 ∨ n = 4) (ok_m : okMach m) (ok_a : okI .u32 a) (ok_n : okI .i64 n) : (evF E_fetch_Load 60 107 (encArgs [.mach, .i .u32, .i .i64] (m, a, n, ()))).ends fun out_ => decO [.i .u32, .trap] out_ = some (K.load m a n) := by
  rw [t_fetch_Load, Tree.ends_holds]
  obtain ⟨a0, a1⟩ := okI_u32 ok_a
  have hr := fun h => cell_range ok_m.core (a := a) (n := n) a0 (by omega) h
  simp only [Tree.holds_loop, Tree.holds_fork, Tree.holds_next, if_true, Tree.holds_cond, Tree.holds_letv, Tree.holds_leaf, Tree.holds_fail, decO, decA, decTup, decMach, decCore, decTrap, decInstr, decPart, decGuest, decConf, decEvent, decVcpu, decStep, bytesS, boolS, eventsS, intsS, guestsS, vcpusS, rowS, castL, Option.bind_some, Option.map_some, Option.some.injEq, Nat.beq_refl, beq_self_eq_true, Bool.and_self, cond_true, cond_false, eq_self, beq_iff_eq, beq_eq_false_iff_ne, bne_iff_ne, bne_eq_false_iff_eq, ne_eq, decide_eq_true_eq, decide_eq_false_iff_not, ble_true, ble_false, inRange_iff, inRange_false, Int.ofNat_eq_natCast, K.load]
  by_cases h : (K.cell m a n).2.cause = 0
  · have ht := cell_zero h
    have hi : K.inR m.mem.length (K.cell m a n).1 n = true := by have := hr h; simp only [K.inR, decide_eq_true_eq]; omega
    simp only [h, ht, hi, if_true]
    simp [hpre]
  · simp [h, hpre]
  
theorem c_fetch_Load : SpecOk EB_2 107 S_fetch_Load := spec_sig ok_fetch_Load (n := 60) fun ⟨m, a, n, ⟨⟩⟩ h hok => a_fetch_Load m a n (of_decide_eq_true h) (ok_mach (okSL_head hok)) (ok_int (okSL_head (okSL_tail hok))) (ok_int (okSL_head (okSL_tail (okSL_tail hok))))
end

/-! fetch_Fetch -/

def S_fetch_Fetch : Spec := sig [.mach] [.i .u32, .trap] (fun (m, _) => K.load m m.core.pc 4)
noncomputable def E_fetch_Fetch : Env := EB_2.adds [(107, S_fetch_Load)]

theorem ok_fetch_Fetch : EnvOk E_fetch_Fetch := okEB_2.adds (l := _) ⟨c_fetch_Load, trivial⟩

theorem t_fetch_Fetch (m : PMach) : evF E_fetch_Fetch 60 76 (encArgs [.mach] (m, ())) = 
  Tree.letv (okO [(AT.i IntKind.u32), AT.trap]) (K.load m m.core.pc (4 : Int)) fun x0 =>
  (Tree.leaf (SV.tup [(SV.v (Value.int IntKind.u32 x0.fst)), (SV.agg [(SV.v (Value.int IntKind.i64 x0.snd.cause)), (SV.v (Value.int IntKind.u32 x0.snd.tval))])])) := by kernel_rfl
section
attribute [local irreducible] evF evFL
theorem a_fetch_Fetch (m : PMach) (ok_m : okMach m) : (evF E_fetch_Fetch 60 76 (encArgs [.mach] (m, ()))).ends fun out_ => decO [.i .u32, .trap] out_ = some (K.load m m.core.pc 4) := by
  rw [t_fetch_Fetch, Tree.ends_holds]
  simp only [Tree.holds_loop, Tree.holds_fork, Tree.holds_next, if_true, Tree.holds_cond, Tree.holds_letv, Tree.holds_leaf, Tree.holds_fail, decO, decA, decTup, decMach, decCore, decTrap, decInstr, decPart, decGuest, decConf, decEvent, decVcpu, decStep, bytesS, boolS, eventsS, intsS, guestsS, vcpusS, rowS, castL, Option.bind_some, Option.map_some, Option.some.injEq, Nat.beq_refl, beq_self_eq_true, Bool.and_self, cond_true, cond_false, eq_self, beq_iff_eq, beq_eq_false_iff_ne, bne_iff_ne, bne_eq_false_iff_eq, ne_eq, decide_eq_true_eq, decide_eq_false_iff_not, ble_true, ble_false, inRange_iff, inRange_false]
  repeat' (first | refine drop_ok ?_ | intro _ | with_reducible apply And.intro)
  all_goals first | trivial | omega | (simp_all; done)
  
theorem c_fetch_Fetch : SpecOk EB_2 76 S_fetch_Fetch := spec_sig ok_fetch_Fetch (n := 60) fun ⟨m, ⟨⟩⟩ h hok => a_fetch_Fetch m (ok_mach (okSL_head hok))
end

/-! step_Current -/

def S_step_Current : Spec := sig [.mach] [.instr, .trap] (fun (m, _) => K.cur m)
noncomputable def E_step_Current : Env := EB_0_1_2.adds [(76, S_fetch_Fetch), (77, S_isa_Decode), (51, S_isa_IsPrivileged), (80, S_trap_IsSupervisor)]

theorem ok_step_Current : EnvOk E_step_Current := okEB_0_1_2.adds (l := _) ⟨(up_2_to_0_1_2 c_fetch_Fetch), (up_0_1_to_0_1_2 c_isa_Decode), (up_to_0_1_2 c_isa_IsPrivileged), (up_to_0_1_2 c_trap_IsSupervisor), trivial⟩

theorem t_step_Current (m : PMach) : evF E_step_Current 60 50 (encArgs [.mach] (m, ())) = 
  Tree.letv (okO [(AT.i IntKind.u32), AT.trap]) (K.load m m.core.pc (4 : Int)) fun x0 =>
  (bif (bne x0.snd.cause (0 : Int)) then
    (Tree.leaf (SV.tup [(SV.agg [(SV.v (Value.int IntKind.i64 (0 : Int))), (SV.v (Value.int IntKind.i64 (0 : Int))), (SV.v (Value.int IntKind.i64 (0 : Int))), (SV.v (Value.int IntKind.i64 (0 : Int))), (SV.v (Value.int IntKind.i32 (0 : Int)))]), (SV.agg [(SV.v (Value.int IntKind.i64 x0.snd.cause)), (SV.v (Value.int IntKind.u32 x0.snd.tval))])]))
  else
    (Tree.letv (okO [AT.instr, AT.b]) (K.decode x0.fst) fun x1 =>
    (bif x1.snd then
      (Tree.letv (okO [AT.b]) (K.privd x1.fst.op) fun x2 =>
      (bif x2 then
        (Tree.letv (okO [AT.b]) (K.super m.core) fun x3 =>
        (bif x3 then
          (Tree.leaf (SV.tup [(SV.agg [(SV.v (Value.int IntKind.i64 x1.fst.op)), (SV.v (Value.int IntKind.i64 x1.fst.rd)), (SV.v (Value.int IntKind.i64 x1.fst.ra)), (SV.v (Value.int IntKind.i64 x1.fst.rb)), (SV.v (Value.int IntKind.i32 x1.fst.imm))]), (SV.agg [(SV.v (Value.int IntKind.i64 (0 : Int))), (SV.v (Value.int IntKind.u32 (0 : Int)))])]))
        else
          (Tree.leaf (SV.tup [(SV.agg [(SV.v (Value.int IntKind.i64 (0 : Int))), (SV.v (Value.int IntKind.i64 (0 : Int))), (SV.v (Value.int IntKind.i64 (0 : Int))), (SV.v (Value.int IntKind.i64 (0 : Int))), (SV.v (Value.int IntKind.i32 (0 : Int)))]), (SV.agg [(SV.v (Value.int IntKind.i64 (2 : Int))), (SV.v (Value.int IntKind.u32 x0.fst))])]))))
      else
        (Tree.leaf (SV.tup [(SV.agg [(SV.v (Value.int IntKind.i64 x1.fst.op)), (SV.v (Value.int IntKind.i64 x1.fst.rd)), (SV.v (Value.int IntKind.i64 x1.fst.ra)), (SV.v (Value.int IntKind.i64 x1.fst.rb)), (SV.v (Value.int IntKind.i32 x1.fst.imm))]), (SV.agg [(SV.v (Value.int IntKind.i64 (0 : Int))), (SV.v (Value.int IntKind.u32 (0 : Int)))])]))))
    else
      (Tree.leaf (SV.tup [(SV.agg [(SV.v (Value.int IntKind.i64 (0 : Int))), (SV.v (Value.int IntKind.i64 (0 : Int))), (SV.v (Value.int IntKind.i64 (0 : Int))), (SV.v (Value.int IntKind.i64 (0 : Int))), (SV.v (Value.int IntKind.i32 (0 : Int)))]), (SV.agg [(SV.v (Value.int IntKind.i64 (1 : Int))), (SV.v (Value.int IntKind.u32 x0.fst))])]))))) := by kernel_rfl
section
attribute [local irreducible] evF evFL
theorem a_step_Current (m : PMach) (ok_m : okMach m) : (evF E_step_Current 60 50 (encArgs [.mach] (m, ()))).ends fun out_ => decO [.instr, .trap] out_ = some (K.cur m) := by
  rw [t_step_Current, Tree.ends_holds]
  simp only [Tree.holds_loop, Tree.holds_fork, Tree.holds_next, if_true, Tree.holds_cond, Tree.holds_letv, Tree.holds_leaf, Tree.holds_fail, decO, decA, decTup, decMach, decCore, decTrap, decInstr, decPart, decGuest, decConf, decEvent, decVcpu, decStep, bytesS, boolS, eventsS, intsS, guestsS, vcpusS, rowS, castL, Option.bind_some, Option.map_some, Option.some.injEq, Nat.beq_refl, beq_self_eq_true, Bool.and_self, cond_true, cond_false, eq_self, beq_iff_eq, beq_eq_false_iff_ne, bne_iff_ne, bne_eq_false_iff_eq, ne_eq, decide_eq_true_eq, decide_eq_false_iff_not, ble_true, ble_false, inRange_iff, inRange_false]
  unfold K.cur
  repeat' (first | refine drop_ok ?_ | intro _ | with_reducible apply And.intro)
  all_goals simp_all
  
theorem c_step_Current : SpecOk EB_0_1_2 50 S_step_Current := spec_sig ok_step_Current (n := 60) fun ⟨m, ⟨⟩⟩ h hok => a_step_Current m (ok_mach (okSL_head hok))
end

/-! exec_Advance -/

def S_exec_Advance : Spec := sig [.core, .i .u32] [.core] (fun (c, by_, _) => { regs := c.regs, pc := (c.pc + by_) % 4294967296, csr := c.csr })
noncomputable def E_exec_Advance : Env := EB.adds []

theorem ok_exec_Advance : EnvOk E_exec_Advance := okEB.adds (l := _) trivial

theorem t_exec_Advance (c : PCore) (by_ : Int) : evF E_exec_Advance 60 86 (encArgs [.core, .i .u32] (c, by_, ())) = 
  Tree.leaf (SV.agg [(SV.arr IntKind.u32 16 c.regs), (SV.v (Value.int IntKind.u32 (IntKind.wrap IntKind.u32 (c.pc + by_)))), (SV.arr IntKind.u32 12 c.csr)]) := by kernel_rfl
section
attribute [local irreducible] evF evFL
theorem a_exec_Advance (c : PCore) (by_ : Int) (ok_c : okCore c) (ok_by_ : okI .u32 by_) : (evF E_exec_Advance 60 86 (encArgs [.core, .i .u32] (c, by_, ()))).ends fun out_ => decO [.core] out_ = some ({ regs := c.regs, pc := (c.pc + by_) % 4294967296, csr := c.csr }) := by
  rw [t_exec_Advance, Tree.ends_holds]
  simp only [Tree.holds_loop, Tree.holds_fork, Tree.holds_next, if_true, Tree.holds_cond, Tree.holds_letv, Tree.holds_leaf, Tree.holds_fail, decO, decA, decTup, decMach, decCore, decTrap, decInstr, decPart, decGuest, decConf, decEvent, decVcpu, decStep, bytesS, boolS, eventsS, intsS, guestsS, vcpusS, rowS, castL, Option.bind_some, Option.map_some, Option.some.injEq, Nat.beq_refl, beq_self_eq_true, Bool.and_self, cond_true, cond_false, eq_self, wrap32]
  
theorem c_exec_Advance : SpecOk EB 86 S_exec_Advance := spec_sig ok_exec_Advance (n := 60) fun ⟨c, by_, ⟨⟩⟩ h hok => a_exec_Advance c by_ (ok_core (okSL_head hok)) (ok_int (okSL_head (okSL_tail hok)))
end

/-! alu_LessSigned -/

def S_alu_LessSigned : Spec := sig [.i .u32, .i .u32] [.b] (fun (x, y, _) => decide (K.sgn x < K.sgn y))
noncomputable def E_alu_LessSigned : Env := EB.adds []

theorem ok_alu_LessSigned : EnvOk E_alu_LessSigned := okEB.adds (l := _) trivial

theorem t_alu_LessSigned (x : Int) (y : Int) : evF E_alu_LessSigned 60 133 (encArgs [.i .u32, .i .u32] (x, y, ())) = 
  bif (decide ((IntKind.wrap IntKind.i32 x) < (IntKind.wrap IntKind.i32 y))) then
    (Tree.leaf (SV.b true))
  else
    (Tree.leaf (SV.b false)) := by kernel_rfl
section
attribute [local irreducible] evF evFL
theorem a_alu_LessSigned (x : Int) (y : Int) (ok_x : okI .u32 x) (ok_y : okI .u32 y) : (evF E_alu_LessSigned 60 133 (encArgs [.i .u32, .i .u32] (x, y, ()))).ends fun out_ => decO [.b] out_ = some (decide (K.sgn x < K.sgn y)) := by
  rw [t_alu_LessSigned, Tree.ends_holds]
  obtain ⟨x0, x1⟩ := okI_u32 ok_x
  obtain ⟨y0, y1⟩ := okI_u32 ok_y
  have e : ∀ z : Int, 0 ≤ z → z < 4294967296 → IntKind.i32.wrap z = K.sgn z := fun z h0 h1 => by
    unfold K.sgn
    simp only [IntKind.wrap, IntKind.bits, IntKind.signed, Bool.true_and, decide_eq_true_eq, Nat.reduceSub, Int.reducePow, ge_iff_le]
    (repeat' split) <;> omega
  simp only [Tree.holds_loop, Tree.holds_fork, Tree.holds_next, if_true, Tree.holds_cond, Tree.holds_letv, Tree.holds_leaf, Tree.holds_fail, decO, decA, decTup, decMach, decCore, decTrap, decInstr, decPart, decGuest, decConf, decEvent, decVcpu, decStep, bytesS, boolS, eventsS, intsS, guestsS, vcpusS, rowS, castL, Option.bind_some, Option.map_some, Option.some.injEq, Nat.beq_refl, beq_self_eq_true, Bool.and_self, cond_true, cond_false, eq_self, beq_iff_eq, beq_eq_false_iff_ne, bne_iff_ne, bne_eq_false_iff_eq, ne_eq, decide_eq_true_eq, decide_eq_false_iff_not, ble_true, ble_false, inRange_iff, inRange_false, e x x0 x1, e y y0 y1]
  repeat' (first | refine drop_ok ?_ | intro _ | with_reducible apply And.intro)
  all_goals simp_all
  
theorem c_alu_LessSigned : SpecOk EB 133 S_alu_LessSigned := spec_sig ok_alu_LessSigned (n := 60) fun ⟨x, y, ⟨⟩⟩ h hok => a_alu_LessSigned x y (ok_int (okSL_head hok)) (ok_int (okSL_head (okSL_tail hok)))
end

/-! alu_Eval -/

def S_alu_Eval : Spec := sig [.i .i64, .i .u32, .i .u32] [.i .u32] (fun (op, x, y, _) => K.alu op x y)
noncomputable def E_alu_Eval : Env := EB.adds [(133, S_alu_LessSigned)]

theorem ok_alu_Eval : EnvOk E_alu_Eval := okEB.adds (l := _) ⟨c_alu_LessSigned, trivial⟩

theorem t_alu_Eval (op : Int) (x : Int) (y : Int) : evF E_alu_Eval 60 121 (encArgs [.i .i64, .i .u32, .i .u32] (op, x, y, ())) = 
  bif (BEq.beq op (1 : Int)) then
    (Tree.leaf (SV.v (Value.int IntKind.u32 (IntKind.wrap IntKind.u32 (x + y)))))
  else
    (bif (BEq.beq op (2 : Int)) then
      (Tree.leaf (SV.v (Value.int IntKind.u32 (IntKind.wrap IntKind.u32 (x - y)))))
    else
      (bif (BEq.beq op (3 : Int)) then
        (Tree.leaf (SV.v (Value.int IntKind.u32 (andI IntKind.u32 x y))))
      else
        (bif (BEq.beq op (4 : Int)) then
          (Tree.leaf (SV.v (Value.int IntKind.u32 (orI IntKind.u32 x y))))
        else
          (bif (BEq.beq op (5 : Int)) then
            (Tree.leaf (SV.v (Value.int IntKind.u32 (xorI IntKind.u32 x y))))
          else
            (bif (BEq.beq op (6 : Int)) then
              (Tree.letv (okO [AT.b]) (decide ((K.sgn x) < (K.sgn y))) fun x0 =>
              (bif x0 then
                (Tree.leaf (SV.v (Value.int IntKind.u32 (1 : Int))))
              else
                (Tree.leaf (SV.v (Value.int IntKind.u32 (0 : Int))))))
            else
              (bif (BEq.beq op (7 : Int)) then
                (bif (decide ((0 : Int) ≤ (andI IntKind.u32 y (31 : Int)))) then
                  (Tree.leaf (SV.v (Value.int IntKind.u32 (IntKind.wrap IntKind.u32 (x * ((2 : Int) ^ (if ((Int.toNat (andI IntKind.u32 y (31 : Int))) ≤ 32) then (Int.toNat (andI IntKind.u32 y (31 : Int))) else 32)))))))
                else
                  (Tree.fail))
              else
                (bif (BEq.beq op (8 : Int)) then
                  (bif (decide ((0 : Int) ≤ (andI IntKind.u32 y (31 : Int)))) then
                    (Tree.leaf (SV.v (Value.int IntKind.u32 (Int.fdiv x ((2 : Int) ^ (if ((Int.toNat (andI IntKind.u32 y (31 : Int))) ≤ 32) then (Int.toNat (andI IntKind.u32 y (31 : Int))) else 32))))))
                  else
                    (Tree.fail))
                else
                  (Tree.leaf (SV.v (Value.int IntKind.u32 (0 : Int))))))))))) := by kernel_rfl
section
attribute [local irreducible] evF evFL
theorem a_alu_Eval (op : Int) (x : Int) (y : Int) (ok_op : okI .i64 op) (ok_x : okI .u32 x) (ok_y : okI .u32 y) : (evF E_alu_Eval 60 121 (encArgs [.i .i64, .i .u32, .i .u32] (op, x, y, ()))).ends fun out_ => decO [.i .u32] out_ = some (K.alu op x y) := by
  rw [t_alu_Eval, Tree.ends_holds]
  obtain ⟨x0, x1⟩ := okI_u32 ok_x
  obtain ⟨y0, y1⟩ := okI_u32 ok_y
  have a31 : andI .u32 y 31 = y % 32 := by have := and_low32 5 (by omega) y0 y1; simpa using this
  have hle : (y % 32).toNat ≤ 32 := by omega
  have e7 : x * 2 ^ (y % 32).toNat = x * K.pow (y % 32) := by unfold K.pow; simp
  have e8 : x.fdiv (2 ^ (y % 32).toNat) = x / K.pow (y % 32) := by
    rw [Int.fdiv_eq_ediv_of_nonneg _ (Int.le_of_lt (Int.pow_pos (by omega)))]; unfold K.pow; simp
  simp only [Tree.holds_loop, Tree.holds_fork, Tree.holds_next, if_true, Tree.holds_cond, Tree.holds_letv, Tree.holds_leaf, Tree.holds_fail, decO, decA, decTup, decMach, decCore, decTrap, decInstr, decPart, decGuest, decConf, decEvent, decVcpu, decStep, bytesS, boolS, eventsS, intsS, guestsS, vcpusS, rowS, castL, Option.bind_some, Option.map_some, Option.some.injEq, Nat.beq_refl, beq_self_eq_true, Bool.and_self, cond_true, cond_false, eq_self, beq_iff_eq, beq_eq_false_iff_ne, bne_iff_ne, bne_eq_false_iff_eq, ne_eq, decide_eq_true_eq, decide_eq_false_iff_not, ble_true, ble_false, inRange_iff, inRange_false, wrap32, a31, if_pos hle, e7, e8]
  repeat' (first | refine drop_ok ?_ | intro _ | with_reducible apply And.intro)
  all_goals first | omega | (subst_vars; simp_all [K.alu]; done) | (simp_all [K.alu]; done)
  
theorem c_alu_Eval : SpecOk EB 121 S_alu_Eval := spec_sig ok_alu_Eval (n := 60) fun ⟨op, x, y, ⟨⟩⟩ h hok => a_alu_Eval op x y (ok_int (okSL_head hok)) (ok_int (okSL_head (okSL_tail hok))) (ok_int (okSL_head (okSL_tail (okSL_tail hok))))
end

/-! alu_BranchTaken -/

def S_alu_BranchTaken : Spec := sig [.i .i64, .i .u32, .i .u32] [.b] (fun (op, x, y, _) => K.taken op x y)
noncomputable def E_alu_BranchTaken : Env := EB.adds [(133, S_alu_LessSigned)]

theorem ok_alu_BranchTaken : EnvOk E_alu_BranchTaken := okEB.adds (l := _) ⟨c_alu_LessSigned, trivial⟩

theorem t_alu_BranchTaken (op : Int) (x : Int) (y : Int) : evF E_alu_BranchTaken 60 119 (encArgs [.i .i64, .i .u32, .i .u32] (op, x, y, ())) = 
  bif (BEq.beq op (15 : Int)) then
    (bif (BEq.beq x y) then
      (Tree.leaf (SV.b true))
    else
      (Tree.leaf (SV.b false)))
  else
    (bif (BEq.beq op (16 : Int)) then
      (bif (bne x y) then
        (Tree.leaf (SV.b true))
      else
        (Tree.leaf (SV.b false)))
    else
      (bif (BEq.beq op (17 : Int)) then
        (Tree.letv (okO [AT.b]) (decide ((K.sgn x) < (K.sgn y))) fun x0 =>
        (bif x0 then
          (Tree.leaf (SV.b true))
        else
          (Tree.leaf (SV.b false))))
      else
        (Tree.leaf (SV.b false)))) := by kernel_rfl
section
attribute [local irreducible] evF evFL
theorem a_alu_BranchTaken (op : Int) (x : Int) (y : Int) (ok_op : okI .i64 op) (ok_x : okI .u32 x) (ok_y : okI .u32 y) : (evF E_alu_BranchTaken 60 119 (encArgs [.i .i64, .i .u32, .i .u32] (op, x, y, ()))).ends fun out_ => decO [.b] out_ = some (K.taken op x y) := by
  rw [t_alu_BranchTaken, Tree.ends_holds]
  simp only [Tree.holds_loop, Tree.holds_fork, Tree.holds_next, if_true, Tree.holds_cond, Tree.holds_letv, Tree.holds_leaf, Tree.holds_fail, decO, decA, decTup, decMach, decCore, decTrap, decInstr, decPart, decGuest, decConf, decEvent, decVcpu, decStep, bytesS, boolS, eventsS, intsS, guestsS, vcpusS, rowS, castL, Option.bind_some, Option.map_some, Option.some.injEq, Nat.beq_refl, beq_self_eq_true, Bool.and_self, cond_true, cond_false, eq_self, beq_iff_eq, beq_eq_false_iff_ne, bne_iff_ne, bne_eq_false_iff_eq, ne_eq, decide_eq_true_eq, decide_eq_false_iff_not, ble_true, ble_false, inRange_iff, inRange_false, K.taken]
  repeat' (first | refine drop_ok ?_ | intro _ | with_reducible apply And.intro)
  all_goals simp_all
  
theorem c_alu_BranchTaken : SpecOk EB 119 S_alu_BranchTaken := spec_sig ok_alu_BranchTaken (n := 60) fun ⟨op, x, y, ⟨⟩⟩ h hok => a_alu_BranchTaken op x y (ok_int (okSL_head hok)) (ok_int (okSL_head (okSL_tail hok))) (ok_int (okSL_head (okSL_tail (okSL_tail hok))))
end

/-! mem_Store -/

def S_mem_Store : Spec := sig [.rd .u8, .i .u32, .i .i64, .i .u32] [.rd .u8, .b] (fun (m, a, n, v, _) => if K.inR m.length a n = true then (K.st m a n v, true) else (m, false)) (pre := fun (m, a, n, v, _) => decide ((n = 1 ∨ n = 4) ∧ m.length ≤ 1099511627776))
noncomputable def E_mem_Store : Env := EB.adds [(137, S_mem_InRange)]

theorem ok_mem_Store : EnvOk E_mem_Store := okEB.adds (l := _) ⟨c_mem_InRange, trivial⟩
theorem t1_c_mem_Store (m : List Int) (a v : Int) : evF E_mem_Store 60 132 [.rd .u8 m, .v (.int .u32 a), .v (.int .i64 1), .v (.int .u32 v)] = 
  bif (decide (And ((0 : Int) ≤ (1 : Int)) (And ((1 : Int) ≤ (1099511627776 : Int)) ((0 : Int) ≤ (Int.ofNat (List.length m)))))) then
    (Tree.letv (okO [AT.b]) (K.inR (Int.ofNat (List.length m)) a (1 : Int)) fun x0 =>
    (bif x0 then
      (bif (Nat.beq (List.length m) 0) then
        (Tree.fork
          (Tree.fail)
          (bif (Bool.or (Bool.not (Nat.beq (List.length m) 0)) true) then
            (bif (Nat.ble ((0 + (List.length m)) * 1) 140737488355328) then
              (bif (inRange (IntKind.wrap IntKind.i64 ((IntKind.wrap IntKind.i64 a) + (0 : Int))) (List.length m)) then
                (Tree.leaf (SV.tup [(SV.rd ETy.u8 (List.set m (Int.toNat (IntKind.wrap IntKind.i64 ((IntKind.wrap IntKind.i64 a) + (0 : Int)))) (IntKind.wrap IntKind.u8 (Int.fdiv v (1 : Int))))), (SV.b true)]))
              else
                (Tree.fail))
            else
              (Tree.fail))
          else
            (Tree.fail)))
      else
        (bif (Bool.or (Bool.not (Nat.beq (List.length m) 0)) true) then
          (bif (Nat.ble ((0 + (List.length m)) * 1) 140737488355328) then
            (bif (inRange (IntKind.wrap IntKind.i64 ((IntKind.wrap IntKind.i64 a) + (0 : Int))) (List.length m)) then
              (Tree.leaf (SV.tup [(SV.rd ETy.u8 (List.set m (Int.toNat (IntKind.wrap IntKind.i64 ((IntKind.wrap IntKind.i64 a) + (0 : Int)))) (IntKind.wrap IntKind.u8 (Int.fdiv v (1 : Int))))), (SV.b true)]))
            else
              (Tree.fail))
          else
            (Tree.fail))
        else
          (Tree.fail)))
    else
      (Tree.leaf (SV.tup [(SV.rd ETy.u8 m), (SV.b false)]))))
  else
    (Tree.fail) := by kernel_rfl
theorem t4_c_mem_Store (m : List Int) (a v : Int) : evF E_mem_Store 60 132 [.rd .u8 m, .v (.int .u32 a), .v (.int .i64 4), .v (.int .u32 v)] = 
  bif (decide (And ((0 : Int) ≤ (4 : Int)) (And ((4 : Int) ≤ (1099511627776 : Int)) ((0 : Int) ≤ (Int.ofNat (List.length m)))))) then
    (Tree.letv (okO [AT.b]) (K.inR (Int.ofNat (List.length m)) a (4 : Int)) fun x0 =>
    (bif x0 then
      (bif (Nat.beq (List.length m) 0) then
        (Tree.fork
          (Tree.fail)
          (bif (Bool.or (Bool.not (Nat.beq (List.length m) 0)) true) then
            (bif (Nat.ble ((0 + (List.length m)) * 1) 140737488355328) then
              (bif (inRange (IntKind.wrap IntKind.i64 ((IntKind.wrap IntKind.i64 a) + (0 : Int))) (List.length m)) then
                (bif (inRange (IntKind.wrap IntKind.i64 ((IntKind.wrap IntKind.i64 a) + (1 : Int))) (List.length (List.set m (Int.toNat (IntKind.wrap IntKind.i64 ((IntKind.wrap IntKind.i64 a) + (0 : Int)))) (IntKind.wrap IntKind.u8 (Int.fdiv v (1 : Int)))))) then
                  (bif (inRange (IntKind.wrap IntKind.i64 ((IntKind.wrap IntKind.i64 a) + (2 : Int))) (List.length (List.set (List.set m (Int.toNat (IntKind.wrap IntKind.i64 ((IntKind.wrap IntKind.i64 a) + (0 : Int)))) (IntKind.wrap IntKind.u8 (Int.fdiv v (1 : Int)))) (Int.toNat (IntKind.wrap IntKind.i64 ((IntKind.wrap IntKind.i64 a) + (1 : Int)))) (IntKind.wrap IntKind.u8 (Int.fdiv v (256 : Int)))))) then
                    (bif (inRange (IntKind.wrap IntKind.i64 ((IntKind.wrap IntKind.i64 a) + (3 : Int))) (List.length (List.set (List.set (List.set m (Int.toNat (IntKind.wrap IntKind.i64 ((IntKind.wrap IntKind.i64 a) + (0 : Int)))) (IntKind.wrap IntKind.u8 (Int.fdiv v (1 : Int)))) (Int.toNat (IntKind.wrap IntKind.i64 ((IntKind.wrap IntKind.i64 a) + (1 : Int)))) (IntKind.wrap IntKind.u8 (Int.fdiv v (256 : Int)))) (Int.toNat (IntKind.wrap IntKind.i64 ((IntKind.wrap IntKind.i64 a) + (2 : Int)))) (IntKind.wrap IntKind.u8 (Int.fdiv v (65536 : Int)))))) then
                      (Tree.leaf (SV.tup [(SV.rd ETy.u8 (List.set (List.set (List.set (List.set m (Int.toNat (IntKind.wrap IntKind.i64 ((IntKind.wrap IntKind.i64 a) + (0 : Int)))) (IntKind.wrap IntKind.u8 (Int.fdiv v (1 : Int)))) (Int.toNat (IntKind.wrap IntKind.i64 ((IntKind.wrap IntKind.i64 a) + (1 : Int)))) (IntKind.wrap IntKind.u8 (Int.fdiv v (256 : Int)))) (Int.toNat (IntKind.wrap IntKind.i64 ((IntKind.wrap IntKind.i64 a) + (2 : Int)))) (IntKind.wrap IntKind.u8 (Int.fdiv v (65536 : Int)))) (Int.toNat (IntKind.wrap IntKind.i64 ((IntKind.wrap IntKind.i64 a) + (3 : Int)))) (IntKind.wrap IntKind.u8 (Int.fdiv v (16777216 : Int))))), (SV.b true)]))
                    else
                      (Tree.fail))
                  else
                    (Tree.fail))
                else
                  (Tree.fail))
              else
                (Tree.fail))
            else
              (Tree.fail))
          else
            (Tree.fail)))
      else
        (bif (Bool.or (Bool.not (Nat.beq (List.length m) 0)) true) then
          (bif (Nat.ble ((0 + (List.length m)) * 1) 140737488355328) then
            (bif (inRange (IntKind.wrap IntKind.i64 ((IntKind.wrap IntKind.i64 a) + (0 : Int))) (List.length m)) then
              (bif (inRange (IntKind.wrap IntKind.i64 ((IntKind.wrap IntKind.i64 a) + (1 : Int))) (List.length (List.set m (Int.toNat (IntKind.wrap IntKind.i64 ((IntKind.wrap IntKind.i64 a) + (0 : Int)))) (IntKind.wrap IntKind.u8 (Int.fdiv v (1 : Int)))))) then
                (bif (inRange (IntKind.wrap IntKind.i64 ((IntKind.wrap IntKind.i64 a) + (2 : Int))) (List.length (List.set (List.set m (Int.toNat (IntKind.wrap IntKind.i64 ((IntKind.wrap IntKind.i64 a) + (0 : Int)))) (IntKind.wrap IntKind.u8 (Int.fdiv v (1 : Int)))) (Int.toNat (IntKind.wrap IntKind.i64 ((IntKind.wrap IntKind.i64 a) + (1 : Int)))) (IntKind.wrap IntKind.u8 (Int.fdiv v (256 : Int)))))) then
                  (bif (inRange (IntKind.wrap IntKind.i64 ((IntKind.wrap IntKind.i64 a) + (3 : Int))) (List.length (List.set (List.set (List.set m (Int.toNat (IntKind.wrap IntKind.i64 ((IntKind.wrap IntKind.i64 a) + (0 : Int)))) (IntKind.wrap IntKind.u8 (Int.fdiv v (1 : Int)))) (Int.toNat (IntKind.wrap IntKind.i64 ((IntKind.wrap IntKind.i64 a) + (1 : Int)))) (IntKind.wrap IntKind.u8 (Int.fdiv v (256 : Int)))) (Int.toNat (IntKind.wrap IntKind.i64 ((IntKind.wrap IntKind.i64 a) + (2 : Int)))) (IntKind.wrap IntKind.u8 (Int.fdiv v (65536 : Int)))))) then
                    (Tree.leaf (SV.tup [(SV.rd ETy.u8 (List.set (List.set (List.set (List.set m (Int.toNat (IntKind.wrap IntKind.i64 ((IntKind.wrap IntKind.i64 a) + (0 : Int)))) (IntKind.wrap IntKind.u8 (Int.fdiv v (1 : Int)))) (Int.toNat (IntKind.wrap IntKind.i64 ((IntKind.wrap IntKind.i64 a) + (1 : Int)))) (IntKind.wrap IntKind.u8 (Int.fdiv v (256 : Int)))) (Int.toNat (IntKind.wrap IntKind.i64 ((IntKind.wrap IntKind.i64 a) + (2 : Int)))) (IntKind.wrap IntKind.u8 (Int.fdiv v (65536 : Int)))) (Int.toNat (IntKind.wrap IntKind.i64 ((IntKind.wrap IntKind.i64 a) + (3 : Int)))) (IntKind.wrap IntKind.u8 (Int.fdiv v (16777216 : Int))))), (SV.b true)]))
                  else
                    (Tree.fail))
                else
                  (Tree.fail))
              else
                (Tree.fail))
            else
              (Tree.fail))
          else
            (Tree.fail))
        else
          (Tree.fail)))
    else
      (Tree.leaf (SV.tup [(SV.rd ETy.u8 m), (SV.b false)]))))
  else
    (Tree.fail) := by kernel_rfl
theorem a1_c_mem_Store (m : List Int) (a v : Int) (hm : m.length ≤ 1099511627776) (ok_m : okBytes m) (ok_a : okI .u32 a) (ok_v : okI .u32 v) : (evF E_mem_Store 60 132 [.rd .u8 m, .v (.int .u32 a), .v (.int .i64 1), .v (.int .u32 v)]).ends fun out_ => decO [.rd .u8, .b] out_ = some (if K.inR m.length a 1 = true then (K.st m a 1 v, true) else (m, false)) := by
  rw [t1_c_mem_Store, Tree.ends_holds]
  obtain ⟨a0, a1⟩ := okI_u32 ok_a
  obtain ⟨v0, v1⟩ := okI_u32 ok_v
  have ew : IntKind.i64.wrap a = a := wrapI64 (by omega) (by omega)
  have i0 : IntKind.i64.wrap (a + 0) = a := by rw [wrapI64 (by omega) (by omega)]; omega
  have s1 : K.inR m.length a 1 = true → K.st m a 1 v = m.set a.toNat (v % 256) := fun _ => rfl
  have hr : K.inR m.length a 1 = true ↔ a + 1 ≤ (m.length : Int) := by simp [K.inR]
  have d0 : v.fdiv 1 = v := by simp
  have hz : m.length.beq 0 = true → m.length = 0 := fun h => Nat.eq_of_beq_eq_true h
  simp only [Tree.holds_loop, Tree.holds_fork, Tree.holds_next, if_true, Tree.holds_cond, Tree.holds_letv, Tree.holds_leaf, Tree.holds_fail, decO, decA, decTup, decMach, decCore, decTrap, decInstr, decPart, decGuest, decConf, decEvent, decVcpu, decStep, bytesS, boolS, eventsS, intsS, guestsS, vcpusS, rowS, castL, Option.bind_some, Option.map_some, Option.some.injEq, Nat.beq_refl, beq_self_eq_true, Bool.and_self, cond_true, cond_false, eq_self, beq_iff_eq, beq_eq_false_iff_ne, bne_iff_ne, bne_eq_false_iff_eq, ne_eq, decide_eq_true_eq, decide_eq_false_iff_not, ble_true, ble_false, inRange_iff, inRange_false, Int.ofNat_eq_natCast, ew, i0, wrap8, d0]
  repeat' (first | refine drop_ok ?_ | intro _ | with_reducible apply And.intro)
  all_goals first | (rw [if_pos (by assumption)]; rfl) | (rw [if_neg (by simp_all)]; done) | omega | (exfalso; have := hr.1 (by assumption); omega) | (exfalso; have q := hr.1 (by assumption); have := hz (by assumption); omega) | (rename_i z; simp at z; done)
theorem a4_c_mem_Store (m : List Int) (a v : Int) (hm : m.length ≤ 1099511627776) (ok_m : okBytes m) (ok_a : okI .u32 a) (ok_v : okI .u32 v) : (evF E_mem_Store 60 132 [.rd .u8 m, .v (.int .u32 a), .v (.int .i64 4), .v (.int .u32 v)]).ends fun out_ => decO [.rd .u8, .b] out_ = some (if K.inR m.length a 4 = true then (K.st m a 4 v, true) else (m, false)) := by
  rw [t4_c_mem_Store, Tree.ends_holds]
  obtain ⟨a0, a1⟩ := okI_u32 ok_a
  obtain ⟨v0, v1⟩ := okI_u32 ok_v
  have ew : IntKind.i64.wrap a = a := wrapI64 (by omega) (by omega)
  have i0 : IntKind.i64.wrap (a + 0) = a := by rw [wrapI64 (by omega) (by omega)]; omega
  have i1 : IntKind.i64.wrap (a + 1) = a + 1 := wrapI64 (by omega) (by omega)
  have i2 : IntKind.i64.wrap (a + 2) = a + 2 := wrapI64 (by omega) (by omega)
  have i3 : IntKind.i64.wrap (a + 3) = a + 3 := wrapI64 (by omega) (by omega)
  have n1 : (a + 1).toNat = a.toNat + 1 := by omega
  have n2 : (a + 2).toNat = a.toNat + 2 := by omega
  have n3 : (a + 3).toNat = a.toNat + 3 := by omega
  have hr : K.inR m.length a 4 = true ↔ a + 4 ≤ (m.length : Int) := by simp [K.inR]
  have d0 : v.fdiv 1 = v := by simp
  have hz : m.length.beq 0 = true → m.length = 0 := fun h => Nat.eq_of_beq_eq_true h
  have d1 : v.fdiv 256 = v / 256 := Int.fdiv_eq_ediv_of_nonneg _ (by omega)
  have d2 : v.fdiv 65536 = v / 65536 := Int.fdiv_eq_ediv_of_nonneg _ (by omega)
  have d3 : v.fdiv 16777216 = v / 16777216 := Int.fdiv_eq_ediv_of_nonneg _ (by omega)
  simp only [Tree.holds_loop, Tree.holds_fork, Tree.holds_next, if_true, Tree.holds_cond, Tree.holds_letv, Tree.holds_leaf, Tree.holds_fail, decO, decA, decTup, decMach, decCore, decTrap, decInstr, decPart, decGuest, decConf, decEvent, decVcpu, decStep, bytesS, boolS, eventsS, intsS, guestsS, vcpusS, rowS, castL, Option.bind_some, Option.map_some, Option.some.injEq, Nat.beq_refl, beq_self_eq_true, Bool.and_self, cond_true, cond_false, eq_self, beq_iff_eq, beq_eq_false_iff_ne, bne_iff_ne, bne_eq_false_iff_eq, ne_eq, decide_eq_true_eq, decide_eq_false_iff_not, ble_true, ble_false, inRange_iff, inRange_false, Int.ofNat_eq_natCast, ew, i0, i1, i2, i3, n1, n2, n3, wrap8, d0, d1, d2, d3, List.length_set]
  repeat' (first | refine drop_ok ?_ | intro _ | with_reducible apply And.intro)
  all_goals first | (rw [if_pos (by assumption)]; rfl) | (rw [if_neg (by simp_all)]; done) | omega | (exfalso; have := hr.1 (by assumption); omega) | (exfalso; have q := hr.1 (by assumption); have := hz (by assumption); omega) | (rename_i z; simp at z; done) | trace_state
theorem c_mem_Store : SpecOk EB 132 S_mem_Store := spec_sig ok_mem_Store (n := 60) fun ⟨m, a, n, v, ⟨⟩⟩ h hok => by
  have h := of_decide_eq_true h
  have o1 := ok_bytes (okSL_head hok)
  have o2 := ok_int (okSL_head (okSL_tail hok))
  have o3 := ok_int (okSL_head (okSL_tail (okSL_tail (okSL_tail hok))))
  rcases h with ⟨h | h, hm⟩
  · have h : n = 1 := h
    subst h; exact a1_c_mem_Store m a v hm o1 o2 o3
  · have h : n = 4 := h
    subst h; exact a4_c_mem_Store m a v hm o1 o2 o3


/-! fetch_Store -/

def S_fetch_Store : Spec := sig [.mach, .i .u32, .i .i64, .i .u32] [.mach, .trap] (fun (m, a, n, v, _) => K.store m a n v) (pre := fun (m, a, n, v, _) => decide ((n = 1 ∨ n = 4) ∧ m.mem.length ≤ 1099511627776))
noncomputable def E_fetch_Store : Env := EB_2.adds [(126, S_fetch_Resolve), (132, S_mem_Store)]

theorem ok_fetch_Store : EnvOk E_fetch_Store := okEB_2.adds (l := _) ⟨c_fetch_Resolve, (up_to_2 c_mem_Store), trivial⟩

theorem t_fetch_Store (m : PMach) (a : Int) (n : Int) (v : Int) : evF E_fetch_Store 60 118 (encArgs [.mach, .i .u32, .i .i64, .i .u32] (m, a, n, v, ())) = 
  bif (decide (Or (n = (1 : Int)) (n = (4 : Int)))) then
    (Tree.letv (okO [(AT.i IntKind.u32), AT.trap]) (K.cell m a n) fun x0 =>
    (bif (Bool.not (Bool.and (BEq.beq x0.snd.cause (0 : Int)) (Bool.and (BEq.beq x0.snd.tval (0 : Int)) true))) then
      (Tree.leaf (SV.tup [(SV.agg [(SV.arr IntKind.u32 16 m.core.regs), (SV.v (Value.int IntKind.u32 m.core.pc)), (SV.arr IntKind.u32 12 m.core.csr), (SV.rd ETy.u8 m.mem), (SV.v (Value.int IntKind.u64 m.time)), (SV.rd ETy.u8 m.out), (SV.v (Value.bool m.halted))]), (SV.agg [(SV.v (Value.int IntKind.i64 x0.snd.cause)), (SV.v (Value.int IntKind.u32 x0.snd.tval))])]))
    else
      (bif (decide (And (Or (n = (1 : Int)) (n = (4 : Int))) ((List.length m.mem) ≤ 1099511627776))) then
        (Tree.letv (okO [(AT.rd ETy.u8), AT.b]) (if ((K.inR (Int.ofNat (List.length m.mem)) x0.fst n) = true) then ((K.st m.mem x0.fst n v), true) else (m.mem, false)) fun x1 =>
        (bif x1.snd then
          (Tree.leaf (SV.tup [(SV.agg [(SV.arr IntKind.u32 16 m.core.regs), (SV.v (Value.int IntKind.u32 m.core.pc)), (SV.arr IntKind.u32 12 m.core.csr), (SV.rd ETy.u8 x1.fst), (SV.v (Value.int IntKind.u64 m.time)), (SV.rd ETy.u8 m.out), (SV.v (Value.bool m.halted))]), (SV.agg [(SV.v (Value.int IntKind.i64 (0 : Int))), (SV.v (Value.int IntKind.u32 (0 : Int)))])]))
        else
          (Tree.leaf (SV.tup [(SV.agg [(SV.arr IntKind.u32 16 m.core.regs), (SV.v (Value.int IntKind.u32 m.core.pc)), (SV.arr IntKind.u32 12 m.core.csr), (SV.rd ETy.u8 x1.fst), (SV.v (Value.int IntKind.u64 m.time)), (SV.rd ETy.u8 m.out), (SV.v (Value.bool m.halted))]), (SV.agg [(SV.v (Value.int IntKind.i64 (0 : Int))), (SV.v (Value.int IntKind.u32 (0 : Int)))])]))))
      else
        (Tree.fail))))
  else
    (Tree.fail) := by kernel_rfl
section
attribute [local irreducible] evF evFL
theorem a_fetch_Store (m : PMach) (a : Int) (n : Int) (v : Int) (hpre : (n = 1 ∨ n = 4) ∧ m.mem.length ≤ 1099511627776) (ok_m : okMach m) (ok_a : okI .u32 a) (ok_n : okI .i64 n) (ok_v : okI .u32 v) : (evF E_fetch_Store 60 118 (encArgs [.mach, .i .u32, .i .i64, .i .u32] (m, a, n, v, ()))).ends fun out_ => decO [.mach, .trap] out_ = some (K.store m a n v) := by
  rw [t_fetch_Store, Tree.ends_holds]
  obtain ⟨a0, a1⟩ := okI_u32 ok_a
  have hr := fun h => cell_range ok_m.core (a := a) (n := n) a0 (by omega) h
  simp only [Tree.holds_loop, Tree.holds_fork, Tree.holds_next, if_true, Tree.holds_cond, Tree.holds_letv, Tree.holds_leaf, Tree.holds_fail, decO, decA, decTup, decMach, decCore, decTrap, decInstr, decPart, decGuest, decConf, decEvent, decVcpu, decStep, bytesS, boolS, eventsS, intsS, guestsS, vcpusS, rowS, castL, Option.bind_some, Option.map_some, Option.some.injEq, Nat.beq_refl, beq_self_eq_true, Bool.and_self, cond_true, cond_false, eq_self, beq_iff_eq, beq_eq_false_iff_ne, bne_iff_ne, bne_eq_false_iff_eq, ne_eq, decide_eq_true_eq, decide_eq_false_iff_not, ble_true, ble_false, inRange_iff, inRange_false, Int.ofNat_eq_natCast, K.store]
  by_cases h : (K.cell m a n).2.cause = 0
  · have ht := cell_zero h
    have hi : K.inR m.mem.length (K.cell m a n).1 n = true := by have := hr h; simp only [K.inR, decide_eq_true_eq]; omega
    simp only [h, ht, hi, if_true]
    simp [hpre]
  · simp [h, hpre]
  
theorem c_fetch_Store : SpecOk EB_2 118 S_fetch_Store := spec_sig ok_fetch_Store (n := 60) fun ⟨m, a, n, v, ⟨⟩⟩ h hok => a_fetch_Store m a n v (of_decide_eq_true h) (ok_mach (okSL_head hok)) (ok_int (okSL_head (okSL_tail hok))) (ok_int (okSL_head (okSL_tail (okSL_tail hok)))) (ok_int (okSL_head (okSL_tail (okSL_tail (okSL_tail hok)))))
end

/-! exec_at -/

def S_exec_at : Spec := sig [.pstep] [.i .u32] (fun (s, _) => (s.x + s.i.imm % 4294967296) % 4294967296)
noncomputable def E_exec_at : Env := EB.adds []

theorem ok_exec_at : EnvOk E_exec_at := okEB.adds (l := _) trivial

theorem t_exec_at (s : PStep) : evF E_exec_at 60 116 (encArgs [.pstep] (s, ())) = 
  Tree.leaf (SV.v (Value.int IntKind.u32 (IntKind.wrap IntKind.u32 (s.x + (IntKind.wrap IntKind.u32 s.i.imm))))) := by kernel_rfl
section
attribute [local irreducible] evF evFL
theorem a_exec_at (s : PStep) (ok_s : okS (encA (.pstep) s)) : (evF E_exec_at 60 116 (encArgs [.pstep] (s, ()))).ends fun out_ => decO [.i .u32] out_ = some ((s.x + s.i.imm % 4294967296) % 4294967296) := by
  rw [t_exec_at, Tree.ends_holds]
  simp only [Tree.holds_loop, Tree.holds_fork, Tree.holds_next, if_true, Tree.holds_cond, Tree.holds_letv, Tree.holds_leaf, Tree.holds_fail, decO, decA, decTup, decMach, decCore, decTrap, decInstr, decPart, decGuest, decConf, decEvent, decVcpu, decStep, bytesS, boolS, eventsS, intsS, guestsS, vcpusS, rowS, castL, Option.bind_some, Option.map_some, Option.some.injEq, Nat.beq_refl, beq_self_eq_true, Bool.and_self, cond_true, cond_false, eq_self, wrap32]
  
theorem c_exec_at : SpecOk EB 116 S_exec_at := spec_sig ok_exec_at (n := 60) fun ⟨s, ⟨⟩⟩ h hok => a_exec_at s (okSL_head hok)
end

/-! exec_size -/

def S_exec_size : Spec := sig [.pstep] [.i .i64] (fun (s, _) => if s.i.op = 13 ∨ s.i.op = 14 then 1 else 4)
noncomputable def E_exec_size : Env := EB.adds []

theorem ok_exec_size : EnvOk E_exec_size := okEB.adds (l := _) trivial

theorem t_exec_size (s : PStep) : evF E_exec_size 60 117 (encArgs [.pstep] (s, ())) = 
  bif (BEq.beq s.i.op (13 : Int)) then
    (Tree.leaf (SV.v (Value.int IntKind.i64 (1 : Int))))
  else
    (bif (BEq.beq s.i.op (14 : Int)) then
      (Tree.leaf (SV.v (Value.int IntKind.i64 (1 : Int))))
    else
      (Tree.leaf (SV.v (Value.int IntKind.i64 (4 : Int))))) := by kernel_rfl
section
attribute [local irreducible] evF evFL
theorem a_exec_size (s : PStep) (ok_s : okS (encA (.pstep) s)) : (evF E_exec_size 60 117 (encArgs [.pstep] (s, ()))).ends fun out_ => decO [.i .i64] out_ = some (if s.i.op = 13 ∨ s.i.op = 14 then 1 else 4) := by
  rw [t_exec_size, Tree.ends_holds]
  simp only [Tree.holds_loop, Tree.holds_fork, Tree.holds_next, if_true, Tree.holds_cond, Tree.holds_letv, Tree.holds_leaf, Tree.holds_fail, decO, decA, decTup, decMach, decCore, decTrap, decInstr, decPart, decGuest, decConf, decEvent, decVcpu, decStep, bytesS, boolS, eventsS, intsS, guestsS, vcpusS, rowS, castL, Option.bind_some, Option.map_some, Option.some.injEq, Nat.beq_refl, beq_self_eq_true, Bool.and_self, cond_true, cond_false, eq_self, beq_iff_eq, beq_eq_false_iff_ne, bne_iff_ne, bne_eq_false_iff_eq, ne_eq, decide_eq_true_eq, decide_eq_false_iff_not, ble_true, ble_false, inRange_iff, inRange_false]
  repeat' (first | refine drop_ok ?_ | intro _ | with_reducible apply And.intro)
  all_goals first | (rw [if_pos (by omega)]; done) | (rw [if_neg (by omega)]; done)
  
theorem c_exec_size : SpecOk EB 117 S_exec_size := spec_sig ok_exec_size (n := 60) fun ⟨s, ⟨⟩⟩ h hok => a_exec_size s (okSL_head hok)
end

/-! exec_far -/

def S_exec_far : Spec := sig [.pstep] [.i .u32] (fun (s, _) => 4 * (s.i.imm % 4294967296) % 4294967296)
noncomputable def E_exec_far : Env := EB.adds []

theorem ok_exec_far : EnvOk E_exec_far := okEB.adds (l := _) trivial

theorem t_exec_far (s : PStep) : evF E_exec_far 60 120 (encArgs [.pstep] (s, ())) = 
  Tree.leaf (SV.v (Value.int IntKind.u32 (IntKind.wrap IntKind.u32 ((4 : Int) * (IntKind.wrap IntKind.u32 s.i.imm))))) := by kernel_rfl
section
attribute [local irreducible] evF evFL
theorem a_exec_far (s : PStep) (ok_s : okS (encA (.pstep) s)) : (evF E_exec_far 60 120 (encArgs [.pstep] (s, ()))).ends fun out_ => decO [.i .u32] out_ = some (4 * (s.i.imm % 4294967296) % 4294967296) := by
  rw [t_exec_far, Tree.ends_holds]
  simp only [Tree.holds_loop, Tree.holds_fork, Tree.holds_next, if_true, Tree.holds_cond, Tree.holds_letv, Tree.holds_leaf, Tree.holds_fail, decO, decA, decTup, decMach, decCore, decTrap, decInstr, decPart, decGuest, decConf, decEvent, decVcpu, decStep, bytesS, boolS, eventsS, intsS, guestsS, vcpusS, rowS, castL, Option.bind_some, Option.map_some, Option.some.injEq, Nat.beq_refl, beq_self_eq_true, Bool.and_self, cond_true, cond_false, eq_self, wrap32]
  
theorem c_exec_far : SpecOk EB 120 S_exec_far := spec_sig ok_exec_far (n := 60) fun ⟨s, ⟨⟩⟩ h hok => a_exec_far s (okSL_head hok)
end

/-! exec_Execute -/

def S_exec_Execute : Spec := sig [.mach, .instr] [.mach, .trap] (fun (m, i, _) => K.exec m i) (pre := fun (m, i, _) => decide (1 ≤ i.op ∧ i.op ≤ 20 ∧ m.mem.length ≤ 1099511627776))
noncomputable def E_exec_Execute : Env := EB_1_2.adds [(81, S_regs_Get), (83, S_regs_Set), (86, S_exec_Advance), (121, S_alu_Eval), (119, S_alu_BranchTaken), (107, S_fetch_Load), (118, S_fetch_Store), (94, S_isa_FormatOf), (116, S_exec_at), (117, S_exec_size), (120, S_exec_far)]

theorem ok_exec_Execute : EnvOk E_exec_Execute := okEB_1_2.adds (l := _) ⟨(up_to_1_2 c_regs_Get), (up_to_1_2 c_regs_Set), (up_to_1_2 c_exec_Advance), (up_to_1_2 c_alu_Eval), (up_to_1_2 c_alu_BranchTaken), (up_2_to_1_2 c_fetch_Load), (up_2_to_1_2 c_fetch_Store), (up_1_to_1_2 c_isa_FormatOf), (up_to_1_2 c_exec_at), (up_to_1_2 c_exec_size), (up_to_1_2 c_exec_far), trivial⟩

theorem t_exec_Execute (m : PMach) (i : PInstr) : evF E_exec_Execute 60 53 (encArgs [.mach, .instr] (m, i, ())) = 
  Tree.letv (okO [(AT.i IntKind.u32)]) (K.get m.core.regs i.ra) fun x0 =>
  (Tree.letv (okO [(AT.i IntKind.u32)]) (K.get m.core.regs i.rb) fun x1 =>
  (Tree.letv (okO [(AT.i IntKind.u32)]) (K.get m.core.regs i.rd) fun x2 =>
  (bif (BEq.beq i.op (9 : Int)) then
    (Tree.letv (okO [(AT.i IntKind.u32)]) ((x0 + (i.imm % (4294967296 : Int))) % (4294967296 : Int)) fun x3 =>
    (Tree.letv (okO [(AT.a IntKind.u32 16)]) (K.put m.core.regs i.rd x3) fun x4 =>
    (Tree.letv (okO [AT.core]) (PCore.mk x4 ((m.core.pc + (4 : Int)) % (4294967296 : Int)) m.core.csr) fun x5 =>
    (Tree.leaf (SV.tup [(SV.agg [(SV.arr IntKind.u32 16 x5.regs), (SV.v (Value.int IntKind.u32 x5.pc)), (SV.arr IntKind.u32 12 x5.csr), (SV.rd ETy.u8 m.mem), (SV.v (Value.int IntKind.u64 m.time)), (SV.rd ETy.u8 m.out), (SV.v (Value.bool m.halted))]), (SV.agg [(SV.v (Value.int IntKind.i64 (0 : Int))), (SV.v (Value.int IntKind.u32 (0 : Int)))])])))))
  else
    (bif (BEq.beq i.op (10 : Int)) then
      (Tree.letv (okO [(AT.a IntKind.u32 16)]) (K.put m.core.regs i.rd (IntKind.wrap IntKind.u32 ((IntKind.wrap IntKind.u32 i.imm) * (16384 : Int)))) fun x3 =>
      (Tree.letv (okO [AT.core]) (PCore.mk x3 ((m.core.pc + (4 : Int)) % (4294967296 : Int)) m.core.csr) fun x4 =>
      (Tree.leaf (SV.tup [(SV.agg [(SV.arr IntKind.u32 16 x4.regs), (SV.v (Value.int IntKind.u32 x4.pc)), (SV.arr IntKind.u32 12 x4.csr), (SV.rd ETy.u8 m.mem), (SV.v (Value.int IntKind.u64 m.time)), (SV.rd ETy.u8 m.out), (SV.v (Value.bool m.halted))]), (SV.agg [(SV.v (Value.int IntKind.i64 (0 : Int))), (SV.v (Value.int IntKind.u32 (0 : Int)))])]))))
    else
      (bif (BEq.beq i.op (11 : Int)) then
        (Tree.letv (okO [(AT.i IntKind.u32)]) ((x0 + (i.imm % (4294967296 : Int))) % (4294967296 : Int)) fun x3 =>
        (Tree.letv (okO [(AT.i IntKind.i64)]) (if (Or (i.op = (13 : Int)) (i.op = (14 : Int))) then (1 : Int) else (4 : Int)) fun x4 =>
        (bif (decide (Or (x4 = (1 : Int)) (x4 = (4 : Int)))) then
          (Tree.letv (okO [(AT.i IntKind.u32), AT.trap]) (K.load m x3 x4) fun x5 =>
          (bif (BEq.beq x5.snd.cause (0 : Int)) then
            (Tree.letv (okO [(AT.a IntKind.u32 16)]) (K.put m.core.regs i.rd x5.fst) fun x6 =>
            (Tree.letv (okO [AT.core]) (PCore.mk x6 ((m.core.pc + (4 : Int)) % (4294967296 : Int)) m.core.csr) fun x7 =>
            (Tree.leaf (SV.tup [(SV.agg [(SV.arr IntKind.u32 16 x7.regs), (SV.v (Value.int IntKind.u32 x7.pc)), (SV.arr IntKind.u32 12 x7.csr), (SV.rd ETy.u8 m.mem), (SV.v (Value.int IntKind.u64 m.time)), (SV.rd ETy.u8 m.out), (SV.v (Value.bool m.halted))]), (SV.agg [(SV.v (Value.int IntKind.i64 x5.snd.cause)), (SV.v (Value.int IntKind.u32 x5.snd.tval))])]))))
          else
            (Tree.leaf (SV.tup [(SV.agg [(SV.arr IntKind.u32 16 m.core.regs), (SV.v (Value.int IntKind.u32 m.core.pc)), (SV.arr IntKind.u32 12 m.core.csr), (SV.rd ETy.u8 m.mem), (SV.v (Value.int IntKind.u64 m.time)), (SV.rd ETy.u8 m.out), (SV.v (Value.bool m.halted))]), (SV.agg [(SV.v (Value.int IntKind.i64 x5.snd.cause)), (SV.v (Value.int IntKind.u32 x5.snd.tval))])]))))
        else
          (Tree.fail))))
      else
        (bif (BEq.beq i.op (13 : Int)) then
          (Tree.letv (okO [(AT.i IntKind.u32)]) ((x0 + (i.imm % (4294967296 : Int))) % (4294967296 : Int)) fun x3 =>
          (Tree.letv (okO [(AT.i IntKind.i64)]) (if (Or (i.op = (13 : Int)) (i.op = (14 : Int))) then (1 : Int) else (4 : Int)) fun x4 =>
          (bif (decide (Or (x4 = (1 : Int)) (x4 = (4 : Int)))) then
            (Tree.letv (okO [(AT.i IntKind.u32), AT.trap]) (K.load m x3 x4) fun x5 =>
            (bif (BEq.beq x5.snd.cause (0 : Int)) then
              (Tree.letv (okO [(AT.a IntKind.u32 16)]) (K.put m.core.regs i.rd x5.fst) fun x6 =>
              (Tree.letv (okO [AT.core]) (PCore.mk x6 ((m.core.pc + (4 : Int)) % (4294967296 : Int)) m.core.csr) fun x7 =>
              (Tree.leaf (SV.tup [(SV.agg [(SV.arr IntKind.u32 16 x7.regs), (SV.v (Value.int IntKind.u32 x7.pc)), (SV.arr IntKind.u32 12 x7.csr), (SV.rd ETy.u8 m.mem), (SV.v (Value.int IntKind.u64 m.time)), (SV.rd ETy.u8 m.out), (SV.v (Value.bool m.halted))]), (SV.agg [(SV.v (Value.int IntKind.i64 x5.snd.cause)), (SV.v (Value.int IntKind.u32 x5.snd.tval))])]))))
            else
              (Tree.leaf (SV.tup [(SV.agg [(SV.arr IntKind.u32 16 m.core.regs), (SV.v (Value.int IntKind.u32 m.core.pc)), (SV.arr IntKind.u32 12 m.core.csr), (SV.rd ETy.u8 m.mem), (SV.v (Value.int IntKind.u64 m.time)), (SV.rd ETy.u8 m.out), (SV.v (Value.bool m.halted))]), (SV.agg [(SV.v (Value.int IntKind.i64 x5.snd.cause)), (SV.v (Value.int IntKind.u32 x5.snd.tval))])]))))
          else
            (Tree.fail))))
        else
          (bif (BEq.beq i.op (12 : Int)) then
            (Tree.letv (okO [(AT.i IntKind.u32)]) ((x0 + (i.imm % (4294967296 : Int))) % (4294967296 : Int)) fun x3 =>
            (Tree.letv (okO [(AT.i IntKind.i64)]) (if (Or (i.op = (13 : Int)) (i.op = (14 : Int))) then (1 : Int) else (4 : Int)) fun x4 =>
            (bif (decide (And (Or (x4 = (1 : Int)) (x4 = (4 : Int))) ((List.length m.mem) ≤ 1099511627776))) then
              (Tree.letv (okO [AT.mach, AT.trap]) (K.store m x3 x4 x2) fun x5 =>
              (bif (BEq.beq x5.snd.cause (0 : Int)) then
                (Tree.letv (okO [AT.core]) (PCore.mk x5.fst.core.regs ((x5.fst.core.pc + (4 : Int)) % (4294967296 : Int)) x5.fst.core.csr) fun x6 =>
                (Tree.leaf (SV.tup [(SV.agg [(SV.arr IntKind.u32 16 x6.regs), (SV.v (Value.int IntKind.u32 x6.pc)), (SV.arr IntKind.u32 12 x6.csr), (SV.rd ETy.u8 x5.fst.mem), (SV.v (Value.int IntKind.u64 x5.fst.time)), (SV.rd ETy.u8 x5.fst.out), (SV.v (Value.bool x5.fst.halted))]), (SV.agg [(SV.v (Value.int IntKind.i64 x5.snd.cause)), (SV.v (Value.int IntKind.u32 x5.snd.tval))])])))
              else
                (Tree.leaf (SV.tup [(SV.agg [(SV.arr IntKind.u32 16 m.core.regs), (SV.v (Value.int IntKind.u32 m.core.pc)), (SV.arr IntKind.u32 12 m.core.csr), (SV.rd ETy.u8 m.mem), (SV.v (Value.int IntKind.u64 m.time)), (SV.rd ETy.u8 m.out), (SV.v (Value.bool m.halted))]), (SV.agg [(SV.v (Value.int IntKind.i64 x5.snd.cause)), (SV.v (Value.int IntKind.u32 x5.snd.tval))])]))))
            else
              (Tree.fail))))
          else
            (bif (BEq.beq i.op (14 : Int)) then
              (Tree.letv (okO [(AT.i IntKind.u32)]) ((x0 + (i.imm % (4294967296 : Int))) % (4294967296 : Int)) fun x3 =>
              (Tree.letv (okO [(AT.i IntKind.i64)]) (if (Or (i.op = (13 : Int)) (i.op = (14 : Int))) then (1 : Int) else (4 : Int)) fun x4 =>
              (bif (decide (And (Or (x4 = (1 : Int)) (x4 = (4 : Int))) ((List.length m.mem) ≤ 1099511627776))) then
                (Tree.letv (okO [AT.mach, AT.trap]) (K.store m x3 x4 x2) fun x5 =>
                (bif (BEq.beq x5.snd.cause (0 : Int)) then
                  (Tree.letv (okO [AT.core]) (PCore.mk x5.fst.core.regs ((x5.fst.core.pc + (4 : Int)) % (4294967296 : Int)) x5.fst.core.csr) fun x6 =>
                  (Tree.leaf (SV.tup [(SV.agg [(SV.arr IntKind.u32 16 x6.regs), (SV.v (Value.int IntKind.u32 x6.pc)), (SV.arr IntKind.u32 12 x6.csr), (SV.rd ETy.u8 x5.fst.mem), (SV.v (Value.int IntKind.u64 x5.fst.time)), (SV.rd ETy.u8 x5.fst.out), (SV.v (Value.bool x5.fst.halted))]), (SV.agg [(SV.v (Value.int IntKind.i64 x5.snd.cause)), (SV.v (Value.int IntKind.u32 x5.snd.tval))])])))
                else
                  (Tree.leaf (SV.tup [(SV.agg [(SV.arr IntKind.u32 16 m.core.regs), (SV.v (Value.int IntKind.u32 m.core.pc)), (SV.arr IntKind.u32 12 m.core.csr), (SV.rd ETy.u8 m.mem), (SV.v (Value.int IntKind.u64 m.time)), (SV.rd ETy.u8 m.out), (SV.v (Value.bool m.halted))]), (SV.agg [(SV.v (Value.int IntKind.i64 x5.snd.cause)), (SV.v (Value.int IntKind.u32 x5.snd.tval))])]))))
              else
                (Tree.fail))))
            else
              (bif (BEq.beq i.op (15 : Int)) then
                (Tree.letv (okO [AT.b]) (K.taken i.op x2 x0) fun x3 =>
                (bif x3 then
                  (Tree.letv (okO [(AT.i IntKind.u32)]) (((4 : Int) * (i.imm % (4294967296 : Int))) % (4294967296 : Int)) fun x4 =>
                  (Tree.letv (okO [AT.core]) (PCore.mk m.core.regs ((m.core.pc + x4) % (4294967296 : Int)) m.core.csr) fun x5 =>
                  (Tree.leaf (SV.tup [(SV.agg [(SV.arr IntKind.u32 16 x5.regs), (SV.v (Value.int IntKind.u32 x5.pc)), (SV.arr IntKind.u32 12 x5.csr), (SV.rd ETy.u8 m.mem), (SV.v (Value.int IntKind.u64 m.time)), (SV.rd ETy.u8 m.out), (SV.v (Value.bool m.halted))]), (SV.agg [(SV.v (Value.int IntKind.i64 (0 : Int))), (SV.v (Value.int IntKind.u32 (0 : Int)))])]))))
                else
                  (Tree.letv (okO [AT.core]) (PCore.mk m.core.regs ((m.core.pc + (4 : Int)) % (4294967296 : Int)) m.core.csr) fun x4 =>
                  (Tree.leaf (SV.tup [(SV.agg [(SV.arr IntKind.u32 16 x4.regs), (SV.v (Value.int IntKind.u32 x4.pc)), (SV.arr IntKind.u32 12 x4.csr), (SV.rd ETy.u8 m.mem), (SV.v (Value.int IntKind.u64 m.time)), (SV.rd ETy.u8 m.out), (SV.v (Value.bool m.halted))]), (SV.agg [(SV.v (Value.int IntKind.i64 (0 : Int))), (SV.v (Value.int IntKind.u32 (0 : Int)))])])))))
              else
                (bif (BEq.beq i.op (16 : Int)) then
                  (Tree.letv (okO [AT.b]) (K.taken i.op x2 x0) fun x3 =>
                  (bif x3 then
                    (Tree.letv (okO [(AT.i IntKind.u32)]) (((4 : Int) * (i.imm % (4294967296 : Int))) % (4294967296 : Int)) fun x4 =>
                    (Tree.letv (okO [AT.core]) (PCore.mk m.core.regs ((m.core.pc + x4) % (4294967296 : Int)) m.core.csr) fun x5 =>
                    (Tree.leaf (SV.tup [(SV.agg [(SV.arr IntKind.u32 16 x5.regs), (SV.v (Value.int IntKind.u32 x5.pc)), (SV.arr IntKind.u32 12 x5.csr), (SV.rd ETy.u8 m.mem), (SV.v (Value.int IntKind.u64 m.time)), (SV.rd ETy.u8 m.out), (SV.v (Value.bool m.halted))]), (SV.agg [(SV.v (Value.int IntKind.i64 (0 : Int))), (SV.v (Value.int IntKind.u32 (0 : Int)))])]))))
                  else
                    (Tree.letv (okO [AT.core]) (PCore.mk m.core.regs ((m.core.pc + (4 : Int)) % (4294967296 : Int)) m.core.csr) fun x4 =>
                    (Tree.leaf (SV.tup [(SV.agg [(SV.arr IntKind.u32 16 x4.regs), (SV.v (Value.int IntKind.u32 x4.pc)), (SV.arr IntKind.u32 12 x4.csr), (SV.rd ETy.u8 m.mem), (SV.v (Value.int IntKind.u64 m.time)), (SV.rd ETy.u8 m.out), (SV.v (Value.bool m.halted))]), (SV.agg [(SV.v (Value.int IntKind.i64 (0 : Int))), (SV.v (Value.int IntKind.u32 (0 : Int)))])])))))
                else
                  (bif (BEq.beq i.op (17 : Int)) then
                    (Tree.letv (okO [AT.b]) (K.taken i.op x2 x0) fun x3 =>
                    (bif x3 then
                      (Tree.letv (okO [(AT.i IntKind.u32)]) (((4 : Int) * (i.imm % (4294967296 : Int))) % (4294967296 : Int)) fun x4 =>
                      (Tree.letv (okO [AT.core]) (PCore.mk m.core.regs ((m.core.pc + x4) % (4294967296 : Int)) m.core.csr) fun x5 =>
                      (Tree.leaf (SV.tup [(SV.agg [(SV.arr IntKind.u32 16 x5.regs), (SV.v (Value.int IntKind.u32 x5.pc)), (SV.arr IntKind.u32 12 x5.csr), (SV.rd ETy.u8 m.mem), (SV.v (Value.int IntKind.u64 m.time)), (SV.rd ETy.u8 m.out), (SV.v (Value.bool m.halted))]), (SV.agg [(SV.v (Value.int IntKind.i64 (0 : Int))), (SV.v (Value.int IntKind.u32 (0 : Int)))])]))))
                    else
                      (Tree.letv (okO [AT.core]) (PCore.mk m.core.regs ((m.core.pc + (4 : Int)) % (4294967296 : Int)) m.core.csr) fun x4 =>
                      (Tree.leaf (SV.tup [(SV.agg [(SV.arr IntKind.u32 16 x4.regs), (SV.v (Value.int IntKind.u32 x4.pc)), (SV.arr IntKind.u32 12 x4.csr), (SV.rd ETy.u8 m.mem), (SV.v (Value.int IntKind.u64 m.time)), (SV.rd ETy.u8 m.out), (SV.v (Value.bool m.halted))]), (SV.agg [(SV.v (Value.int IntKind.i64 (0 : Int))), (SV.v (Value.int IntKind.u32 (0 : Int)))])])))))
                  else
                    (bif (BEq.beq i.op (18 : Int)) then
                      (Tree.letv (okO [(AT.i IntKind.u32)]) (((4 : Int) * (i.imm % (4294967296 : Int))) % (4294967296 : Int)) fun x3 =>
                      (bif (BEq.beq i.op (19 : Int)) then
                        (Tree.letv (okO [(AT.i IntKind.u32)]) ((x0 + (i.imm % (4294967296 : Int))) % (4294967296 : Int)) fun x4 =>
                        (Tree.letv (okO [(AT.a IntKind.u32 16)]) (K.put m.core.regs i.rd (IntKind.wrap IntKind.u32 (m.core.pc + (4 : Int)))) fun x5 =>
                        (Tree.letv (okO [AT.core]) (PCore.mk x5 ((m.core.pc + (4 : Int)) % (4294967296 : Int)) m.core.csr) fun x6 =>
                        (Tree.leaf (SV.tup [(SV.agg [(SV.arr IntKind.u32 16 x6.regs), (SV.v (Value.int IntKind.u32 x4)), (SV.arr IntKind.u32 12 x6.csr), (SV.rd ETy.u8 m.mem), (SV.v (Value.int IntKind.u64 m.time)), (SV.rd ETy.u8 m.out), (SV.v (Value.bool m.halted))]), (SV.agg [(SV.v (Value.int IntKind.i64 (0 : Int))), (SV.v (Value.int IntKind.u32 (0 : Int)))])])))))
                      else
                        (Tree.letv (okO [(AT.a IntKind.u32 16)]) (K.put m.core.regs i.rd (IntKind.wrap IntKind.u32 (m.core.pc + (4 : Int)))) fun x4 =>
                        (Tree.letv (okO [AT.core]) (PCore.mk x4 ((m.core.pc + (4 : Int)) % (4294967296 : Int)) m.core.csr) fun x5 =>
                        (Tree.leaf (SV.tup [(SV.agg [(SV.arr IntKind.u32 16 x5.regs), (SV.v (Value.int IntKind.u32 (IntKind.wrap IntKind.u32 (m.core.pc + x3)))), (SV.arr IntKind.u32 12 x5.csr), (SV.rd ETy.u8 m.mem), (SV.v (Value.int IntKind.u64 m.time)), (SV.rd ETy.u8 m.out), (SV.v (Value.bool m.halted))]), (SV.agg [(SV.v (Value.int IntKind.i64 (0 : Int))), (SV.v (Value.int IntKind.u32 (0 : Int)))])]))))))
                    else
                      (bif (BEq.beq i.op (19 : Int)) then
                        (Tree.letv (okO [(AT.i IntKind.u32)]) (((4 : Int) * (i.imm % (4294967296 : Int))) % (4294967296 : Int)) fun x3 =>
                        (bif (BEq.beq i.op (19 : Int)) then
                          (Tree.letv (okO [(AT.i IntKind.u32)]) ((x0 + (i.imm % (4294967296 : Int))) % (4294967296 : Int)) fun x4 =>
                          (Tree.letv (okO [(AT.a IntKind.u32 16)]) (K.put m.core.regs i.rd (IntKind.wrap IntKind.u32 (m.core.pc + (4 : Int)))) fun x5 =>
                          (Tree.letv (okO [AT.core]) (PCore.mk x5 ((m.core.pc + (4 : Int)) % (4294967296 : Int)) m.core.csr) fun x6 =>
                          (Tree.leaf (SV.tup [(SV.agg [(SV.arr IntKind.u32 16 x6.regs), (SV.v (Value.int IntKind.u32 x4)), (SV.arr IntKind.u32 12 x6.csr), (SV.rd ETy.u8 m.mem), (SV.v (Value.int IntKind.u64 m.time)), (SV.rd ETy.u8 m.out), (SV.v (Value.bool m.halted))]), (SV.agg [(SV.v (Value.int IntKind.i64 (0 : Int))), (SV.v (Value.int IntKind.u32 (0 : Int)))])])))))
                        else
                          (Tree.letv (okO [(AT.a IntKind.u32 16)]) (K.put m.core.regs i.rd (IntKind.wrap IntKind.u32 (m.core.pc + (4 : Int)))) fun x4 =>
                          (Tree.letv (okO [AT.core]) (PCore.mk x4 ((m.core.pc + (4 : Int)) % (4294967296 : Int)) m.core.csr) fun x5 =>
                          (Tree.leaf (SV.tup [(SV.agg [(SV.arr IntKind.u32 16 x5.regs), (SV.v (Value.int IntKind.u32 (IntKind.wrap IntKind.u32 (m.core.pc + x3)))), (SV.arr IntKind.u32 12 x5.csr), (SV.rd ETy.u8 m.mem), (SV.v (Value.int IntKind.u64 m.time)), (SV.rd ETy.u8 m.out), (SV.v (Value.bool m.halted))]), (SV.agg [(SV.v (Value.int IntKind.i64 (0 : Int))), (SV.v (Value.int IntKind.u32 (0 : Int)))])]))))))
                      else
                        (bif (BEq.beq i.op (20 : Int)) then
                          (Tree.leaf (SV.tup [(SV.agg [(SV.arr IntKind.u32 16 m.core.regs), (SV.v (Value.int IntKind.u32 m.core.pc)), (SV.arr IntKind.u32 12 m.core.csr), (SV.rd ETy.u8 m.mem), (SV.v (Value.int IntKind.u64 m.time)), (SV.rd ETy.u8 m.out), (SV.v (Value.bool m.halted))]), (SV.agg [(SV.v (Value.int IntKind.i64 (5 : Int))), (SV.v (Value.int IntKind.u32 (0 : Int)))])]))
                        else
                          (Tree.letv (okO [(AT.i IntKind.i64)]) (K.form i.op) fun x3 =>
                          (bif (BEq.beq x3 (1 : Int)) then
                            (Tree.letv (okO [(AT.i IntKind.u32)]) (K.alu i.op x0 x1) fun x4 =>
                            (Tree.letv (okO [(AT.a IntKind.u32 16)]) (K.put m.core.regs i.rd x4) fun x5 =>
                            (Tree.letv (okO [AT.core]) (PCore.mk x5 ((m.core.pc + (4 : Int)) % (4294967296 : Int)) m.core.csr) fun x6 =>
                            (Tree.leaf (SV.tup [(SV.agg [(SV.arr IntKind.u32 16 x6.regs), (SV.v (Value.int IntKind.u32 x6.pc)), (SV.arr IntKind.u32 12 x6.csr), (SV.rd ETy.u8 m.mem), (SV.v (Value.int IntKind.u64 m.time)), (SV.rd ETy.u8 m.out), (SV.v (Value.bool m.halted))]), (SV.agg [(SV.v (Value.int IntKind.i64 (0 : Int))), (SV.v (Value.int IntKind.u32 (0 : Int)))])])))))
                          else
                            (Tree.leaf (SV.tup [(SV.agg [(SV.arr IntKind.u32 16 m.core.regs), (SV.v (Value.int IntKind.u32 m.core.pc)), (SV.arr IntKind.u32 12 m.core.csr), (SV.rd ETy.u8 m.mem), (SV.v (Value.int IntKind.u64 m.time)), (SV.rd ETy.u8 m.out), (SV.v (Value.bool m.halted))]), (SV.agg [(SV.v (Value.int IntKind.i64 (0 : Int))), (SV.v (Value.int IntKind.u32 (0 : Int)))])])))))))))))))))))) := by kernel_rfl
section
attribute [local irreducible] evF evFL
theorem a_exec_Execute (m : PMach) (i : PInstr) (hpre : 1 ≤ i.op ∧ i.op ≤ 20 ∧ m.mem.length ≤ 1099511627776) (ok_m : okMach m) (ok_i : okInstr i) : (evF E_exec_Execute 60 53 (encArgs [.mach, .instr] (m, i, ()))).ends fun out_ => decO [.mach, .trap] out_ = some (K.exec m i) := by
  rw [t_exec_Execute, Tree.ends_holds]
  obtain ⟨im0, im1⟩ := okI_i32 ok_i.imm
  have hpre1 := hpre.1
  have hpre2 := hpre.2.1
  simp only [Tree.holds_loop, Tree.holds_fork, Tree.holds_next, if_true, Tree.holds_cond, Tree.holds_letv, Tree.holds_leaf, Tree.holds_fail, decO, decA, decTup, decMach, decCore, decTrap, decInstr, decPart, decGuest, decConf, decEvent, decVcpu, decStep, bytesS, boolS, eventsS, intsS, guestsS, vcpusS, rowS, castL, Option.bind_some, Option.map_some, Option.some.injEq, Nat.beq_refl, beq_self_eq_true, Bool.and_self, cond_true, cond_false, eq_self, beq_iff_eq, beq_eq_false_iff_ne, bne_iff_ne, bne_eq_false_iff_eq, ne_eq, decide_eq_true_eq, decide_eq_false_iff_not, ble_true, ble_false, inRange_iff, inRange_false, wrap32]
  have e0 : (K.get m.core.regs i.ra + i.imm % 4294967296) % 4294967296 = K.ea m i := rfl
  have e1 : 4 * (i.imm % 4294967296) % 4294967296 = K.far i := by unfold K.far; omega
  have x1 : 1 ≤ i.op → i.op ≤ 8 → K.exec m i = _ := fun a b => by unfold K.exec; rw [if_pos ⟨a, b⟩]
  have x9 : i.op = 9 → K.exec m i = _ := fun a => by unfold K.exec; rw [if_neg (by omega), if_pos a]
  have x10 : i.op = 10 → K.exec m i = _ := fun a => by unfold K.exec; rw [if_neg (by omega), if_neg (by omega), if_pos a]
  have x11 : i.op = 11 ∨ i.op = 13 → K.exec m i = _ := fun a => by unfold K.exec; rw [if_neg (by omega), if_neg (by omega), if_neg (by omega), if_pos a]
  have x12 : i.op = 12 ∨ i.op = 14 → K.exec m i = _ := fun a => by unfold K.exec; rw [if_neg (by omega), if_neg (by omega), if_neg (by omega), if_neg (by omega), if_pos a]
  have x15 : 15 ≤ i.op → i.op ≤ 17 → K.exec m i = _ := fun a b => by unfold K.exec; rw [if_neg (by omega), if_neg (by omega), if_neg (by omega), if_neg (by omega), if_neg (by omega), if_pos ⟨a, b⟩]
  have x18 : i.op = 18 → K.exec m i = _ := fun a => by unfold K.exec; rw [if_neg (by omega), if_neg (by omega), if_neg (by omega), if_neg (by omega), if_neg (by omega), if_neg (by omega), if_pos a]
  have x19 : i.op = 19 → K.exec m i = _ := fun a => by unfold K.exec; rw [if_neg (by omega), if_neg (by omega), if_neg (by omega), if_neg (by omega), if_neg (by omega), if_neg (by omega), if_neg (by omega), if_pos a]
  have x20 : i.op = 20 → K.exec m i = (m, ⟨5, 0⟩) := fun a => by unfold K.exec; rw [if_neg (by omega), if_neg (by omega), if_neg (by omega), if_neg (by omega), if_neg (by omega), if_neg (by omega), if_neg (by omega), if_neg (by omega)]
  have hform : K.form i.op = 1 → i.op ≤ 8 := fun h => by unfold K.form at h; (repeat' split at h) <;> omega
  have hform2 : ¬ K.form i.op = 1 → 8 < i.op := fun h => by
    unfold K.form at h
    by_cases q : i.op ≤ 8
    · rw [if_pos ⟨hpre1, q⟩] at h; exact absurd rfl h
    · omega
  simp only [e0, e1]
  clear ok_m ok_i im0 im1
  have lz := fun a n => load_zero (m := m) (a := a) (n := n)
  have sz := fun a n v => store_zero (m := m) (a := a) (n := n) (v := v)
  have ss := fun a n v => store_same (m := m) (a := a) (n := n) (v := v)
  repeat' (first | refine drop_ok ?_ | intro _ | with_reducible apply And.intro)
  all_goals try omega
  all_goals try (rw [x9 (by assumption)]; rfl)
  all_goals try (rw [x10 (by assumption)]; rfl)
  all_goals try (rw [x18 (by assumption)]; rfl)
  all_goals try (rw [x19 (by assumption)]; rfl)
  all_goals try (rw [x20 (by assumption)])
  all_goals try (rw [x1 hpre1 (hform (by assumption))]; rfl)
  all_goals try (
    have q : i.op = 11 := by assumption
    have n1 : (if i.op = 13 ∨ i.op = 14 then (1 : Int) else 4) = 4 := if_neg (by omega)
    have n2 : (if i.op = 13 then (1 : Int) else 4) = 4 := if_neg (by omega)
    rw [x11 (.inl q)]
    simp only [n1, n2] at *
    first
      | (have c : (K.load m (K.ea m i) 4).2.cause = 0 := by assumption
         rw [if_pos c]; simp only [c, lz _ _ c]; rfl)
      | (rw [if_neg (show ¬ (K.load m (K.ea m i) 4).2.cause = 0 by assumption)]; first | done | rfl))
  all_goals try (
    have q : i.op = 13 := by assumption
    have n1 : (if i.op = 13 ∨ i.op = 14 then (1 : Int) else 4) = 1 := if_pos (by omega)
    have n2 : (if i.op = 13 then (1 : Int) else 4) = 1 := if_pos (by omega)
    rw [x11 (.inr q)]
    simp only [n1, n2] at *
    first
      | (have c : (K.load m (K.ea m i) 1).2.cause = 0 := by assumption
         rw [if_pos c]; simp only [c, lz _ _ c]; rfl)
      | (rw [if_neg (show ¬ (K.load m (K.ea m i) 1).2.cause = 0 by assumption)]; first | done | rfl))
  all_goals try (
    have q : i.op = 12 := by assumption
    have n1 : (if i.op = 13 ∨ i.op = 14 then (1 : Int) else 4) = 4 := if_neg (by omega)
    have n2 : (if i.op = 14 then (1 : Int) else 4) = 4 := if_neg (by omega)
    rw [x12 (.inl q)]
    simp only [n1, n2] at *
    first
      | (have c : (K.store m (K.ea m i) 4 (K.get m.core.regs i.rd)).2.cause = 0 := by assumption
         obtain ⟨s1, s2, s3, s4⟩ := ss (K.ea m i) 4 (K.get m.core.regs i.rd)
         rw [if_pos c]; simp only [c, sz _ _ _ c, s1]; simp only [K.wpc, s1])
      | (rw [if_neg (show ¬ (K.store m (K.ea m i) 4 (K.get m.core.regs i.rd)).2.cause = 0 by assumption)]; first | done | rfl))
  all_goals try (
    have q : i.op = 14 := by assumption
    have n1 : (if i.op = 13 ∨ i.op = 14 then (1 : Int) else 4) = 1 := if_pos (by omega)
    have n2 : (if i.op = 14 then (1 : Int) else 4) = 1 := if_pos (by omega)
    rw [x12 (.inr q)]
    simp only [n1, n2] at *
    first
      | (have c : (K.store m (K.ea m i) 1 (K.get m.core.regs i.rd)).2.cause = 0 := by assumption
         obtain ⟨s1, s2, s3, s4⟩ := ss (K.ea m i) 1 (K.get m.core.regs i.rd)
         rw [if_pos c]; simp only [c, sz _ _ _ c, s1]; simp only [K.wpc, s1])
      | (rw [if_neg (show ¬ (K.store m (K.ea m i) 1 (K.get m.core.regs i.rd)).2.cause = 0 by assumption)]; first | done | rfl))
  all_goals try (rw [x15 (by omega) (by omega), if_pos (by assumption)]; rfl)
  all_goals try (rw [x15 (by omega) (by omega), if_neg (by rw [show K.taken i.op (K.get m.core.regs i.rd) (K.get m.core.regs i.ra) = false by assumption]; decide)]; rfl)
  all_goals try (have := hform2 (by assumption); omega)
  all_goals try (exfalso; rename_i q; apply q; split <;> simp; done)
  all_goals try (exfalso; rename_i q; apply q; refine ⟨?_, hpre.2.2⟩; split <;> simp; done)
  
theorem c_exec_Execute : SpecOk EB_1_2 53 S_exec_Execute := spec_sig ok_exec_Execute (n := 60) fun ⟨m, i, ⟨⟩⟩ h hok => a_exec_Execute m i (of_decide_eq_true h) (ok_mach (okSL_head hok)) (ok_instr (okSL_head (okSL_tail hok)))
end

/-! step_StepNoTimer -/

def S_step_StepNoTimer : Spec := sig [.mach] [.mach, .trap] (fun (m, _) => K.plain m) (pre := fun (m, _) => decide (m.mem.length ≤ 1099511627776 ∧ m.out.length ≤ 1099511627776))
noncomputable def E_step_StepNoTimer : Env := EB_0_1_2.adds [(50, S_step_Current), (25, S_step_end), (51, S_isa_IsPrivileged), (52, S_priv_Execute), (53, S_exec_Execute)]

theorem ok_step_StepNoTimer : EnvOk E_step_StepNoTimer := okEB_0_1_2.adds (l := _) ⟨c_step_Current, (up_to_0_1_2 c_step_end), (up_to_0_1_2 c_isa_IsPrivileged), (up_to_0_1_2 c_priv_Execute), (up_1_2_to_0_1_2 c_exec_Execute), trivial⟩

theorem t_step_StepNoTimer (m : PMach) : evF E_step_StepNoTimer 60 26 (encArgs [.mach] (m, ())) = 
  bif m.halted then
    (Tree.leaf (SV.tup [(SV.agg [(SV.arr IntKind.u32 16 m.core.regs), (SV.v (Value.int IntKind.u32 m.core.pc)), (SV.arr IntKind.u32 12 m.core.csr), (SV.rd ETy.u8 m.mem), (SV.v (Value.int IntKind.u64 m.time)), (SV.rd ETy.u8 m.out), (SV.v (Value.bool m.halted))]), (SV.agg [(SV.v (Value.int IntKind.i64 (0 : Int))), (SV.v (Value.int IntKind.u32 (0 : Int)))])]))
  else
    (Tree.letv (okO [AT.instr, AT.trap]) (K.cur m) fun x0 =>
    (bif (bne x0.snd.cause (0 : Int)) then
      (Tree.letv (okO [AT.mach, AT.trap]) (K.endS m x0.snd) fun x1 =>
      (Tree.leaf (SV.tup [(SV.agg [(SV.arr IntKind.u32 16 x1.fst.core.regs), (SV.v (Value.int IntKind.u32 x1.fst.core.pc)), (SV.arr IntKind.u32 12 x1.fst.core.csr), (SV.rd ETy.u8 x1.fst.mem), (SV.v (Value.int IntKind.u64 x1.fst.time)), (SV.rd ETy.u8 x1.fst.out), (SV.v (Value.bool x1.fst.halted))]), (SV.agg [(SV.v (Value.int IntKind.i64 x1.snd.cause)), (SV.v (Value.int IntKind.u32 x1.snd.tval))])])))
    else
      (Tree.letv (okO [AT.b]) (K.privd x0.fst.op) fun x1 =>
      (bif x1 then
        (bif (decide ((List.length m.out) ≤ 1099511627776)) then
          (Tree.letv (okO [AT.mach]) (K.priv m x0.fst) fun x2 =>
          (Tree.letv (okO [AT.mach, AT.trap]) (K.endS x2 x0.snd) fun x3 =>
          (Tree.leaf (SV.tup [(SV.agg [(SV.arr IntKind.u32 16 x3.fst.core.regs), (SV.v (Value.int IntKind.u32 x3.fst.core.pc)), (SV.arr IntKind.u32 12 x3.fst.core.csr), (SV.rd ETy.u8 x3.fst.mem), (SV.v (Value.int IntKind.u64 x3.fst.time)), (SV.rd ETy.u8 x3.fst.out), (SV.v (Value.bool x3.fst.halted))]), (SV.agg [(SV.v (Value.int IntKind.i64 x3.snd.cause)), (SV.v (Value.int IntKind.u32 x3.snd.tval))])]))))
        else
          (Tree.fail))
      else
        (bif (decide (And ((1 : Int) ≤ x0.fst.op) (And (x0.fst.op ≤ (20 : Int)) ((List.length m.mem) ≤ 1099511627776)))) then
          (Tree.letv (okO [AT.mach, AT.trap]) (K.exec m x0.fst) fun x2 =>
          (Tree.letv (okO [AT.mach, AT.trap]) (K.endS x2.fst x2.snd) fun x3 =>
          (Tree.leaf (SV.tup [(SV.agg [(SV.arr IntKind.u32 16 x3.fst.core.regs), (SV.v (Value.int IntKind.u32 x3.fst.core.pc)), (SV.arr IntKind.u32 12 x3.fst.core.csr), (SV.rd ETy.u8 x3.fst.mem), (SV.v (Value.int IntKind.u64 x3.fst.time)), (SV.rd ETy.u8 x3.fst.out), (SV.v (Value.bool x3.fst.halted))]), (SV.agg [(SV.v (Value.int IntKind.i64 x3.snd.cause)), (SV.v (Value.int IntKind.u32 x3.snd.tval))])]))))
        else
          (Tree.fail)))))) := by kernel_rfl
section
attribute [local irreducible] evF evFL
theorem a_step_StepNoTimer (m : PMach) (hpre : m.mem.length ≤ 1099511627776 ∧ m.out.length ≤ 1099511627776) (ok_m : okMach m) : (evF E_step_StepNoTimer 60 26 (encArgs [.mach] (m, ()))).ends fun out_ => decO [.mach, .trap] out_ = some (K.plain m) := by
  rw [t_step_StepNoTimer, Tree.ends_holds]
  have hmay := fun h => cur_may (m := m) h
  have hz := fun h => cur_zero (m := m) h
  simp only [Tree.holds_loop, Tree.holds_fork, Tree.holds_next, if_true, Tree.holds_cond, Tree.holds_letv, Tree.holds_leaf, Tree.holds_fail, decO, decA, decTup, decMach, decCore, decTrap, decInstr, decPart, decGuest, decConf, decEvent, decVcpu, decStep, bytesS, boolS, eventsS, intsS, guestsS, vcpusS, rowS, castL, Option.bind_some, Option.map_some, Option.some.injEq, Nat.beq_refl, beq_self_eq_true, Bool.and_self, cond_true, cond_false, eq_self, beq_iff_eq, beq_eq_false_iff_ne, bne_iff_ne, bne_eq_false_iff_eq, ne_eq, decide_eq_true_eq, decide_eq_false_iff_not, ble_true, ble_false, inRange_iff, inRange_false]
  unfold K.plain
  repeat' (first | refine drop_ok ?_ | intro _ | with_reducible apply And.intro)
  · rename_i h; rw [if_pos h]
  · rename_i h c; rw [if_neg (by rw [h]; decide), if_pos c]
  · rename_i h c p _; rw [if_neg (by rw [h]; decide), if_neg (by simp [c]), if_pos p, hz c]
  · omega
  · rename_i h c p _; rw [if_neg (by rw [h]; decide), if_neg (by simp [c]), if_neg (by rw [p]; decide)]
  · rename_i h c p q
    have hm := (hmay c).op
    apply q
    refine ⟨hm.1, ?_, hpre.1⟩
    have : ¬ (21 ≤ (K.cur m).1.op ∧ (K.cur m).1.op ≤ 25) := fun z => by rw [privd_range.2 z] at p; cases p
    omega
  
theorem c_step_StepNoTimer : SpecOk EB_0_1_2 26 S_step_StepNoTimer := spec_sig ok_step_StepNoTimer (n := 60) fun ⟨m, ⟨⟩⟩ h hok => a_step_StepNoTimer m (of_decide_eq_true h) (ok_mach (okSL_head hok))
end

/-! step_Step -/

def S_step_Step : Spec := sig [.mach] [.mach, .trap] (fun (m, _) => K.step m) (pre := fun (m, _) => decide (m.mem.length ≤ 1099511627776 ∧ m.out.length ≤ 1099511627776))
noncomputable def E_step_Step : Env := EB_0_1_2.adds [(24, S_fetch_TimerPending), (25, S_step_end), (26, S_step_StepNoTimer)]

theorem ok_step_Step : EnvOk E_step_Step := okEB_0_1_2.adds (l := _) ⟨(up_to_0_1_2 c_fetch_TimerPending), (up_to_0_1_2 c_step_end), c_step_StepNoTimer, trivial⟩

theorem t_step_Step (m : PMach) : evF E_step_Step 60 10 (encArgs [.mach] (m, ())) = 
  bif m.halted then
    (bif (decide (And ((List.length m.mem) ≤ 1099511627776) ((List.length m.out) ≤ 1099511627776))) then
      (Tree.letv (okO [AT.mach, AT.trap]) (K.plain m) fun x0 =>
      (Tree.leaf (SV.tup [(SV.agg [(SV.arr IntKind.u32 16 x0.fst.core.regs), (SV.v (Value.int IntKind.u32 x0.fst.core.pc)), (SV.arr IntKind.u32 12 x0.fst.core.csr), (SV.rd ETy.u8 x0.fst.mem), (SV.v (Value.int IntKind.u64 x0.fst.time)), (SV.rd ETy.u8 x0.fst.out), (SV.v (Value.bool x0.fst.halted))]), (SV.agg [(SV.v (Value.int IntKind.i64 x0.snd.cause)), (SV.v (Value.int IntKind.u32 x0.snd.tval))])])))
    else
      (Tree.fail))
  else
    (Tree.letv (okO [AT.b]) (K.due m) fun x0 =>
    (bif x0 then
      (Tree.letv (okO [AT.mach, AT.trap]) (K.endS m (PTrap.mk (6 : Int) (0 : Int))) fun x1 =>
      (Tree.leaf (SV.tup [(SV.agg [(SV.arr IntKind.u32 16 x1.fst.core.regs), (SV.v (Value.int IntKind.u32 x1.fst.core.pc)), (SV.arr IntKind.u32 12 x1.fst.core.csr), (SV.rd ETy.u8 x1.fst.mem), (SV.v (Value.int IntKind.u64 x1.fst.time)), (SV.rd ETy.u8 x1.fst.out), (SV.v (Value.bool x1.fst.halted))]), (SV.agg [(SV.v (Value.int IntKind.i64 x1.snd.cause)), (SV.v (Value.int IntKind.u32 x1.snd.tval))])])))
    else
      (bif (decide (And ((List.length m.mem) ≤ 1099511627776) ((List.length m.out) ≤ 1099511627776))) then
        (Tree.letv (okO [AT.mach, AT.trap]) (K.plain m) fun x1 =>
        (Tree.leaf (SV.tup [(SV.agg [(SV.arr IntKind.u32 16 x1.fst.core.regs), (SV.v (Value.int IntKind.u32 x1.fst.core.pc)), (SV.arr IntKind.u32 12 x1.fst.core.csr), (SV.rd ETy.u8 x1.fst.mem), (SV.v (Value.int IntKind.u64 x1.fst.time)), (SV.rd ETy.u8 x1.fst.out), (SV.v (Value.bool x1.fst.halted))]), (SV.agg [(SV.v (Value.int IntKind.i64 x1.snd.cause)), (SV.v (Value.int IntKind.u32 x1.snd.tval))])])))
      else
        (Tree.fail)))) := by kernel_rfl
section
attribute [local irreducible] evF evFL
theorem a_step_Step (m : PMach) (hpre : m.mem.length ≤ 1099511627776 ∧ m.out.length ≤ 1099511627776) (ok_m : okMach m) : (evF E_step_Step 60 10 (encArgs [.mach] (m, ()))).ends fun out_ => decO [.mach, .trap] out_ = some (K.step m) := by
  rw [t_step_Step, Tree.ends_holds]
  simp only [Tree.holds_loop, Tree.holds_fork, Tree.holds_next, if_true, Tree.holds_cond, Tree.holds_letv, Tree.holds_leaf, Tree.holds_fail, decO, decA, decTup, decMach, decCore, decTrap, decInstr, decPart, decGuest, decConf, decEvent, decVcpu, decStep, bytesS, boolS, eventsS, intsS, guestsS, vcpusS, rowS, castL, Option.bind_some, Option.map_some, Option.some.injEq, Nat.beq_refl, beq_self_eq_true, Bool.and_self, cond_true, cond_false, eq_self, beq_iff_eq, beq_eq_false_iff_ne, bne_iff_ne, bne_eq_false_iff_eq, ne_eq, decide_eq_true_eq, decide_eq_false_iff_not, ble_true, ble_false, inRange_iff, inRange_false]
  unfold K.step
  repeat' (first | refine drop_ok ?_ | intro _ | with_reducible apply And.intro)
  all_goals first | (simp_all; done) | omega
  
theorem c_step_Step : SpecOk EB_0_1_2 10 S_step_Step := spec_sig ok_step_Step (n := 60) fun ⟨m, ⟨⟩⟩ h hok => a_step_Step m (of_decide_eq_true h) (ok_mach (okSL_head hok))
end

/-! law21_HandlerHandledTrapIsOneStep -/

def S_law21_HandlerHandledTrapIsOneStep : Spec := sig [.mach, .vcpu, .part] [.b] (fun (host, v, p, _) => true)
noncomputable def E_law21_HandlerHandledTrapIsOneStep : Env := EB_0_1_2.adds [(4, S_law21_awake), (5, S_ref10_Few), (6, S_ref16_Few), (7, S_law21_alone), (8, S_ref13_Plain), (9, S_shadow_Dispatch), (10, S_step_Step), (11, S_ref05_Cut), (12, S_ref05_Same), (13, S_handler_IsMonitorTrap), (14, S_handler_Handle), (15, S_ref06_Super)]

theorem ok_law21_HandlerHandledTrapIsOneStep : EnvOk E_law21_HandlerHandledTrapIsOneStep := okEB_0_1_2.adds (l := _) ⟨(up_0_1_to_0_1_2 c_law21_awake), (up_to_0_1_2 c_ref10_Few), (up_to_0_1_2 c_ref16_Few), (up_to_0_1_2 c_law21_alone), (up_to_0_1_2 c_ref13_Plain), (up_to_0_1_2 c_shadow_Dispatch), c_step_Step, (up_to_0_1_2 c_ref05_Cut), (up_to_0_1_2 c_ref05_Same), (up_to_0_1_2 c_handler_IsMonitorTrap), (up_0_1_to_0_1_2 c_handler_Handle), (up_to_0_1_2 c_ref06_Super), trivial⟩

theorem t_law21_HandlerHandledTrapIsOneStep (host : PMach) (v : PVcpu) (p : PPart) : evF E_law21_HandlerHandledTrapIsOneStep 60 3 (encArgs [.mach, .vcpu, .part] (host, v, p, ())) = 
  Tree.letv (okO [AT.b]) true fun x0 =>
  (bif x0 then
    (Tree.letv (okO [AT.b]) (K.few host) fun x1 =>
    (bif x1 then
      (Tree.letv (okO [AT.b]) (K.vfew v) fun x2 =>
      (bif x2 then
        (bif (decide ((IntKind.wrap IntKind.i64 ((IntKind.wrap IntKind.i64 p.base) + (IntKind.wrap IntKind.i64 p.size))) > (Int.ofNat (List.length host.mem)))) then
          (Tree.letv (okO [AT.b]) true fun x3 =>
          (bif x3 then
            (Tree.leaf (SV.b true))
          else
            (Tree.leaf (SV.b false))))
        else
          (bif (bne (Int.tmod p.base (4 : Int)) (0 : Int)) then
            (Tree.letv (okO [AT.b]) true fun x3 =>
            (bif x3 then
              (Tree.leaf (SV.b true))
            else
              (Tree.leaf (SV.b false))))
          else
            (bif v.halted then
              (Tree.letv (okO [AT.b]) true fun x3 =>
              (bif x3 then
                (Tree.leaf (SV.b true))
              else
                (Tree.leaf (SV.b false))))
            else
              (bif host.halted then
                (Tree.letv (okO [AT.b]) true fun x3 =>
                (bif x3 then
                  (Tree.leaf (SV.b true))
                else
                  (Tree.leaf (SV.b false))))
              else
                (bif (decide (host.time > (1152921504606846976 : Int))) then
                  (Tree.letv (okO [AT.b]) true fun x3 =>
                  (bif x3 then
                    (Tree.leaf (SV.b true))
                  else
                    (Tree.leaf (SV.b false))))
                else
                  (bif (bne (List.getD v.core.csr 7 (0 : Int)) (0 : Int)) then
                    (Tree.letv (okO [AT.b]) true fun x3 =>
                    (bif x3 then
                      (Tree.leaf (SV.b true))
                    else
                      (Tree.leaf (SV.b false))))
                  else
                    (bif (bne (List.getD v.core.csr 8 (0 : Int)) (0 : Int)) then
                      (Tree.letv (okO [AT.b]) true fun x3 =>
                      (bif x3 then
                        (Tree.leaf (SV.b true))
                      else
                        (Tree.leaf (SV.b false))))
                    else
                      (bif (bne (List.getD v.core.regs 0 (0 : Int)) (0 : Int)) then
                        (Tree.letv (okO [AT.b]) true fun x3 =>
                        (bif x3 then
                          (Tree.leaf (SV.b true))
                        else
                          (Tree.leaf (SV.b false))))
                      else
                        (bif (decide ((List.length host.mem) ≤ 1099511627776)) then
                          (Tree.letv (okO [AT.mach]) (if ((p.base + p.size) ≤ (Int.ofNat (List.length host.mem))) then (K.bare host v p host.time) else (PMach.mk v.core [] host.time v.out v.halted)) fun x3 =>
                          (bif (decide (And ((List.length x3.mem) ≤ 1099511627776) ((List.length x3.out) ≤ 1099511627776))) then
                            (Tree.letv (okO [AT.mach, AT.trap]) (K.plain x3) fun x4 =>
                            (Tree.letv (okO [AT.mach]) (K.dispatch host v p (IntKind.wrap IntKind.u64 (host.time + (9 : Int)))) fun x5 =>
                            (bif (decide (And ((List.length x5.mem) ≤ 1099511627776) ((List.length x5.out) ≤ 1099511627776))) then
                              (Tree.letv (okO [AT.mach, AT.trap]) (K.step x5) fun x6 =>
                              (bif (decide ((List.length x6.fst.mem) ≤ 1099511627776)) then
                                (Tree.letv (okO [(AT.rd ETy.u8), AT.b]) (if ((p.base + p.size) ≤ (Int.ofNat (List.length x6.fst.mem))) then ((List.take (Int.toNat p.size) (List.drop (Int.toNat p.base) x6.fst.mem)), true) else ([], false)) fun x7 =>
                                (bif x7.snd then
                                  (Tree.letv (okO [AT.b]) (decide (x7.fst = x4.fst.mem)) fun x8 =>
                                  (bif x8 then
                                    (Tree.letv (okO [AT.b]) (K.ours x6.snd) fun x9 =>
                                    (bif x9 then
                                      (bif (Bool.and (BEq.beq x6.snd.cause (0 : Int)) (Bool.and (BEq.beq x6.snd.tval (0 : Int)) true)) then
                                        (bif (Bool.and (BEq.beq x6.snd.cause (0 : Int)) (Bool.and (BEq.beq x6.snd.tval (0 : Int)) true)) then
                                          (bif (Bool.and (BEq.beq x4.snd.cause x6.snd.cause) (Bool.and (BEq.beq x4.snd.tval x6.snd.tval) true)) then
                                            (bif (decide (x6.fst.core.regs = x4.fst.core.regs)) then
                                              (bif (BEq.beq x6.fst.core.pc x4.fst.core.pc) then
                                                (bif (decide (x4.fst.core.csr = v.core.csr)) then
                                                  (Tree.letv (okO [AT.b]) (decide (x4.fst.out = v.out)) fun x10 =>
                                                  (bif x10 then
                                                    (Tree.leaf (SV.b true))
                                                  else
                                                    (Tree.leaf (SV.b false))))
                                                else
                                                  (Tree.leaf (SV.b false)))
                                              else
                                                (Tree.leaf (SV.b false)))
                                            else
                                              (Tree.leaf (SV.b false)))
                                          else
                                            (Tree.leaf (SV.b false)))
                                        else
                                          (bif (decide (And ((List.length v.out) ≤ 1099511627776) ((List.length v.log) ≤ 1099511627776))) then
                                            (Tree.letv (okO [AT.vcpu]) (K.handle v x6.snd host.time) fun x10 =>
                                            (bif (Bool.and (decide (x10.core.regs = x4.fst.core.regs)) (Bool.and (BEq.beq x10.core.pc x4.fst.core.pc) (Bool.and (decide (x10.core.csr = x4.fst.core.csr)) true))) then
                                              (Tree.letv (okO [AT.b]) (decide (x10.out = x4.fst.out)) fun x11 =>
                                              (bif x11 then
                                                (bif x10.halted then
                                                  (bif x4.fst.halted then
                                                    (bif (BEq.beq x10.done (IntKind.wrap IntKind.i64 (v.done + (1 : Int)))) then
                                                      (Tree.letv (okO [AT.b]) (K.super x6.fst.core) fun x12 =>
                                                      (bif x12 then
                                                        (Tree.leaf (SV.b true))
                                                      else
                                                        (Tree.leaf (SV.b false))))
                                                    else
                                                      (Tree.leaf (SV.b false)))
                                                  else
                                                    (Tree.leaf (SV.b false)))
                                                else
                                                  (bif x4.fst.halted then
                                                    (Tree.leaf (SV.b false))
                                                  else
                                                    (bif (BEq.beq x10.done (IntKind.wrap IntKind.i64 (v.done + (1 : Int)))) then
                                                      (Tree.letv (okO [AT.b]) (K.super x6.fst.core) fun x12 =>
                                                      (bif x12 then
                                                        (Tree.leaf (SV.b true))
                                                      else
                                                        (Tree.leaf (SV.b false))))
                                                    else
                                                      (Tree.leaf (SV.b false)))))
                                              else
                                                (Tree.leaf (SV.b false))))
                                            else
                                              (Tree.leaf (SV.b false))))
                                          else
                                            (Tree.fail)))
                                      else
                                        (Tree.leaf (SV.b false)))
                                    else
                                      (bif (Bool.and (BEq.beq x6.snd.cause (0 : Int)) (Bool.and (BEq.beq x6.snd.tval (0 : Int)) true)) then
                                        (Tree.leaf (SV.b false))
                                      else
                                        (bif (Bool.and (BEq.beq x6.snd.cause (0 : Int)) (Bool.and (BEq.beq x6.snd.tval (0 : Int)) true)) then
                                          (bif (Bool.and (BEq.beq x4.snd.cause x6.snd.cause) (Bool.and (BEq.beq x4.snd.tval x6.snd.tval) true)) then
                                            (bif (decide (x6.fst.core.regs = x4.fst.core.regs)) then
                                              (bif (BEq.beq x6.fst.core.pc x4.fst.core.pc) then
                                                (bif (decide (x4.fst.core.csr = v.core.csr)) then
                                                  (Tree.letv (okO [AT.b]) (decide (x4.fst.out = v.out)) fun x10 =>
                                                  (bif x10 then
                                                    (Tree.leaf (SV.b true))
                                                  else
                                                    (Tree.leaf (SV.b false))))
                                                else
                                                  (Tree.leaf (SV.b false)))
                                              else
                                                (Tree.leaf (SV.b false)))
                                            else
                                              (Tree.leaf (SV.b false)))
                                          else
                                            (Tree.leaf (SV.b false)))
                                        else
                                          (bif (decide (And ((List.length v.out) ≤ 1099511627776) ((List.length v.log) ≤ 1099511627776))) then
                                            (Tree.letv (okO [AT.vcpu]) (K.handle v x6.snd host.time) fun x10 =>
                                            (bif (Bool.and (decide (x10.core.regs = x4.fst.core.regs)) (Bool.and (BEq.beq x10.core.pc x4.fst.core.pc) (Bool.and (decide (x10.core.csr = x4.fst.core.csr)) true))) then
                                              (Tree.letv (okO [AT.b]) (decide (x10.out = x4.fst.out)) fun x11 =>
                                              (bif x11 then
                                                (bif x10.halted then
                                                  (bif x4.fst.halted then
                                                    (bif (BEq.beq x10.done (IntKind.wrap IntKind.i64 (v.done + (1 : Int)))) then
                                                      (Tree.letv (okO [AT.b]) (K.super x6.fst.core) fun x12 =>
                                                      (bif x12 then
                                                        (Tree.leaf (SV.b true))
                                                      else
                                                        (Tree.leaf (SV.b false))))
                                                    else
                                                      (Tree.leaf (SV.b false)))
                                                  else
                                                    (Tree.leaf (SV.b false)))
                                                else
                                                  (bif x4.fst.halted then
                                                    (Tree.leaf (SV.b false))
                                                  else
                                                    (bif (BEq.beq x10.done (IntKind.wrap IntKind.i64 (v.done + (1 : Int)))) then
                                                      (Tree.letv (okO [AT.b]) (K.super x6.fst.core) fun x12 =>
                                                      (bif x12 then
                                                        (Tree.leaf (SV.b true))
                                                      else
                                                        (Tree.leaf (SV.b false))))
                                                    else
                                                      (Tree.leaf (SV.b false)))))
                                              else
                                                (Tree.leaf (SV.b false))))
                                            else
                                              (Tree.leaf (SV.b false))))
                                          else
                                            (Tree.fail))))))
                                  else
                                    (Tree.leaf (SV.b false))))
                                else
                                  (Tree.leaf (SV.b false))))
                              else
                                (Tree.fail)))
                            else
                              (Tree.fail))))
                          else
                            (Tree.fail)))
                        else
                          (Tree.fail))))))))))
      else
        (Tree.letv (okO [AT.b]) true fun x3 =>
        (bif x3 then
          (Tree.leaf (SV.b true))
        else
          (Tree.leaf (SV.b false))))))
    else
      (Tree.letv (okO [AT.b]) true fun x2 =>
      (bif x2 then
        (Tree.leaf (SV.b true))
      else
        (Tree.leaf (SV.b false))))))
  else
    (Tree.letv (okO [AT.b]) true fun x1 =>
    (bif x1 then
      (Tree.leaf (SV.b true))
    else
      (Tree.leaf (SV.b false))))) := by kernel_rfl
section
attribute [local irreducible] evF evFL
theorem a_law21_HandlerHandledTrapIsOneStep (host : PMach) (v : PVcpu) (p : PPart) (ok_host : okMach host) (ok_v : okVcpu v) (ok_p : okPart p) : (evF E_law21_HandlerHandledTrapIsOneStep 60 3 (encArgs [.mach, .vcpu, .part] (host, v, p, ()))).ends fun out_ => decO [.b] out_ = some (true) := by
  rw [t_law21_HandlerHandledTrapIsOneStep, Tree.ends_holds]
  obtain ⟨p0, p1⟩ := okI_u32 ok_p.base
  obtain ⟨q0, q1⟩ := okI_u32 ok_p.size
  obtain ⟨h0, h1⟩ := okI_u64 ok_host.time
  obtain ⟨t0, t1⟩ := ok_v.core.csr.u32 (i := 5) (by omega)
  obtain ⟨u0, u1⟩ := ok_v.core.csr.u32 (i := 6) (by omega)
  have v0 := (okI_u32 ok_v.core.pc).1
  have hl := ok_host.core.csr.1
  have f5 : K.few host = true → host.mem.length ≤ 600 ∧ host.out.length ≤ 600 := fun h => by simpa only [K.few, Bool.and_eq_true, decide_eq_true_eq] using h
  have f7 : K.vfew v = true → v.out.length ≤ 600 ∧ v.log.length ≤ 600 := fun h => by simpa only [K.vfew, Bool.and_eq_true, decide_eq_true_eq] using h
  have w1 : IntKind.i64.wrap p.base = p.base := wrapI64 (by omega) (by omega)
  have w2 : IntKind.i64.wrap p.size = p.size := wrapI64 (by omega) (by omega)
  have w3 : IntKind.i64.wrap (p.base + p.size) = p.base + p.size := wrapI64 (by omega) (by omega)
  simp only [Tree.holds_loop, Tree.holds_fork, Tree.holds_next, if_true, Tree.holds_cond, Tree.holds_letv, Tree.holds_leaf, Tree.holds_fail, decO, decA, decTup, decMach, decCore, decTrap, decInstr, decPart, decGuest, decConf, decEvent, decVcpu, decStep, bytesS, boolS, eventsS, intsS, guestsS, vcpusS, rowS, castL, Option.bind_some, Option.map_some, Option.some.injEq, Nat.beq_refl, beq_self_eq_true, Bool.and_self, cond_true, cond_false, eq_self, beq_iff_eq, beq_eq_false_iff_ne, bne_iff_ne, bne_eq_false_iff_eq, ne_eq, decide_eq_true_eq, decide_eq_false_iff_not, ble_true, ble_false, inRange_iff, inRange_false, Int.ofNat_eq_natCast, w1, w2, w3]
  by_cases hc : K.few host = true ∧ K.vfew v = true ∧ p.base + p.size ≤ (host.mem.length : Int) ∧ v.halted = false ∧ host.halted = false ∧ ¬ host.time > 1152921504606846976 ∧ v.core.regs.getD 0 0 = 0
  rotate_left
  · repeat' (first | refine drop_ok ?_ | intro _ | with_reducible apply And.intro)
    all_goals first
      | trivial
      | exact absurd ⟨by assumption, by assumption, by omega, by assumption, by assumption, by assumption, by assumption⟩ hc
  obtain ⟨c1, c2, hf, hv, hh, ht, hr⟩ := hc
  obtain ⟨l1, l2⟩ := f5 c1
  obtain ⟨l3, l4⟩ := f7 c2
  have w9 : IntKind.u64.wrap (host.time + 9) = host.time + 9 := by rw [wrap64]; omega
  simp only [if_pos hf, w9]
  have d := dispatch_disp (host := host) (v := v) (p := p) (alarm := host.time + 9) hl (by omega) (by omega) hr hh
  have S := sim_step (T := host.time) d ⟨p0, q0, hf, by show host.mem.length < 4294967296; omega, t0, u0⟩ v0 hv (by show host.time < host.time + 9; omega)
  have eb : K.bare (K.dispatch host v p (host.time + 9)) v p host.time = K.bare host v p host.time := rfl
  rw [eb] at S
  have tr := step_trapped (m := K.dispatch host v p (host.time + 9)) d.len d.go
  have dm : (K.dispatch host v p (host.time + 9)).mem = host.mem := rfl
  have dt : (K.dispatch host v p (host.time + 9)).out = host.out := rfl
  have bm : (K.bare host v p host.time).out = v.out := rfl
  have bl : (K.bare host v p host.time).mem.length ≤ 600 := by simp only [K.bare, List.length_take, List.length_drop]; omega
  simp only [dm, dt, bm]
  have sf := S.free
  have st := S.trap
  have sl := S.len
  rw [eb] at sf st sl
  generalize K.step (K.dispatch host v p (host.time + 9)) = b at *
  generalize K.plain (K.bare host v p host.time) = a at *
  have o1 := S.only.len
  rw [dm] at o1
  have cut : List.take p.size.toNat (List.drop p.base.toNat b.1.mem) = a.1.mem := by
    have hlen : a.1.mem.length = p.size.toNat := by
      rw [sl]
      simp only [K.bare, List.length_take, List.length_drop]; omega
    apply List.ext_getElem?
    intro i
    by_cases hi : i < p.size.toNat
    · have := S.mem (i : Int) (by omega) (by omega)
      rw [show ((i : Int) + p.base).toNat = p.base.toNat + i by omega, Int.toNat_natCast] at this
      rw [List.getElem?_take, if_pos hi, List.getElem?_drop, List.getElem?_eq_getElem (by omega), List.getElem?_eq_getElem (by omega)]
      rw [List.getD_eq_getElem?_getD, List.getD_eq_getElem?_getD, List.getElem?_eq_getElem (by omega), List.getElem?_eq_getElem (by omega)] at this
      simpa using this
    · rw [List.getElem?_eq_none (by rw [List.length_take]; omega), List.getElem?_eq_none (by omega)]
  have hfb : p.base + p.size ≤ (b.1.mem.length : Int) := by rw [o1]; exact hf
  simp only [if_pos hfb, cut]
  have cs := S.cause
  have hours : K.ours b.2 = (b.2.cause == 0) := by
    unfold K.ours
    have : (b.2.cause == 6) = false := by rw [beq_eq_false_iff_ne]; omega
    rw [this, Bool.or_false]
  by_cases hz : b.2.cause = 0
  · obtain ⟨r1, r2, r3, r4, r5, r6, r7, r8⟩ := sf hz
    have e2 : a.2 = ⟨0, 0⟩ := r2
    simp only [hours, r1, e2, r3, r4, r5, r6]
    repeat' (first | refine drop_ok ?_ | intro _ | with_reducible apply And.intro)
    all_goals first | trivial | (exfalso; omega) | (simp_all; done) | trace_state
  · obtain ⟨r1, r2, r3, r4, r5, r6⟩ := st hz
    have r7 := (tr hz).1
    simp only [hours, r3, r4, r5, r6, wrap_inc ok_v.done]
    repeat' (first | refine drop_ok ?_ | intro _ | with_reducible apply And.intro)
    all_goals first | trivial | (exfalso; omega) | (simp_all; done) | trace_state
  
theorem c_law21_HandlerHandledTrapIsOneStep : SpecOk EB_0_1_2 3 S_law21_HandlerHandledTrapIsOneStep := spec_sig ok_law21_HandlerHandledTrapIsOneStep (n := 60) fun ⟨host, v, p, ⟨⟩⟩ h hok => a_law21_HandlerHandledTrapIsOneStep host v p (ok_mach (okSL_head hok)) (ok_vcpu (okSL_head (okSL_tail hok))) (ok_part (okSL_head (okSL_tail (okSL_tail hok))))
end


end Go.Proofs.YtnhokcnnhmkbhaaGreatDoor
