/- Contracts of functions, by evaluation (nothing is claimed here). -/
import Derived.Test.YtmbmahgaejcjiaaGreatDoorSh29
import Derived.KernelRfl
import Derived.Test.YtmbmahgaejcjiaaGreatDoorProg
import Derived.Test.YtmbmahgaejcjiaaGreatDoorTimeSliceMatchesReferenceB4
set_option linter.unusedVariables false
set_option linter.unusedSimpArgs false
set_option maxRecDepth 100000
set_option maxHeartbeats 1000000
namespace Go.Proofs.YtmbmahgaejcjiaaGreatDoor
open Go
/-! ref13_Plain -/

def S_ref13_Plain : Spec := sig [.mach] [.mach, .trap] (fun (m, _) => K.plain m) (pre := fun (m, _) => decide (m.mem.length ≤ 1099511627776 ∧ m.out.length ≤ 1099511627776))
noncomputable def E_ref13_Plain : Env := EB.adds [(46, S_ref13_Now), (47, S_ref02_Privileged), (48, S_ref12_Do), (49, S_ref11_Do), (45, S_ref09_Enter)]

theorem ok_ref13_Plain : EnvOk E_ref13_Plain := okEB.adds (l := _) ⟨c_ref13_Now, c_ref02_Privileged, c_ref12_Do, c_ref11_Do, c_ref09_Enter, trivial⟩

theorem t_ref13_Plain (m : PMach) : evF E_ref13_Plain 60 20 (encArgs [.mach] (m, ())) = 
 bif m.halted then
 (Tree.leaf (SV.tup [(SV.agg [(SV.arr IntKind.u32 16 m.core.regs), (SV.v (Value.int IntKind.u32 m.core.pc)), (SV.arr IntKind.u32 12 m.core.csr), (SV.rd ETy.u8 m.mem), (SV.v (Value.int IntKind.u64 m.time)), (SV.rd ETy.u8 m.out), (SV.v (Value.bool m.halted))]), (SV.agg [(SV.v (Value.int IntKind.i64 (0 : Int))), (SV.v (Value.int IntKind.u32 (0 : Int)))])]))
 else
 (Tree.letv (okO [AT.instr, AT.trap]) (K.cur m) fun x0 =>
 (bif (BEq.beq x0.snd.cause (0 : Int)) then
 (Tree.letv (okO [AT.b]) (K.privd x0.fst.op) fun x1 =>
 (bif x1 then
 (bif (decide ((List.length m.out) ≤ 1099511627776)) then
 (Tree.letv (okO [AT.mach]) (K.priv m x0.fst) fun x2 =>
 (bif (BEq.beq x0.snd.cause (0 : Int)) then
 (Tree.letv (okO [AT.b]) (K.privd x0.fst.op) fun x3 =>
 (bif x3 then
 (bif (bne x0.snd.cause (0 : Int)) then
 (Tree.letv (okO [AT.core]) (K.enter x2.core x0.snd) fun x4 =>
 (Tree.leaf (SV.tup [(SV.agg [(SV.arr IntKind.u32 16 x4.regs), (SV.v (Value.int IntKind.u32 x4.pc)), (SV.arr IntKind.u32 12 x4.csr), (SV.rd ETy.u8 x2.mem), (SV.v (Value.int IntKind.u64 (IntKind.wrap IntKind.u64 (m.time + (1 : Int))))), (SV.rd ETy.u8 x2.out), (SV.v (Value.bool x2.halted))]), (SV.agg [(SV.v (Value.int IntKind.i64 x0.snd.cause)), (SV.v (Value.int IntKind.u32 x0.snd.tval))])])))
 else
 (Tree.leaf (SV.tup [(SV.agg [(SV.arr IntKind.u32 16 x2.core.regs), (SV.v (Value.int IntKind.u32 x2.core.pc)), (SV.arr IntKind.u32 12 x2.core.csr), (SV.rd ETy.u8 x2.mem), (SV.v (Value.int IntKind.u64 (IntKind.wrap IntKind.u64 (m.time + (1 : Int))))), (SV.rd ETy.u8 x2.out), (SV.v (Value.bool x2.halted))]), (SV.agg [(SV.v (Value.int IntKind.i64 x0.snd.cause)), (SV.v (Value.int IntKind.u32 x0.snd.tval))])])))
 else
 (bif (decide (And ((1 : Int) ≤ x0.fst.op) (And (x0.fst.op ≤ (20 : Int)) ((List.length m.mem) ≤ 1099511627776)))) then
 (Tree.letv (okO [AT.mach, AT.trap]) (K.exec m x0.fst) fun x4 =>
 (bif (bne x4.snd.cause (0 : Int)) then
 (Tree.letv (okO [AT.core]) (K.enter x4.fst.core x4.snd) fun x5 =>
 (Tree.leaf (SV.tup [(SV.agg [(SV.arr IntKind.u32 16 x5.regs), (SV.v (Value.int IntKind.u32 x5.pc)), (SV.arr IntKind.u32 12 x5.csr), (SV.rd ETy.u8 x4.fst.mem), (SV.v (Value.int IntKind.u64 (IntKind.wrap IntKind.u64 (m.time + (1 : Int))))), (SV.rd ETy.u8 x4.fst.out), (SV.v (Value.bool x4.fst.halted))]), (SV.agg [(SV.v (Value.int IntKind.i64 x4.snd.cause)), (SV.v (Value.int IntKind.u32 x4.snd.tval))])])))
 else
 (Tree.leaf (SV.tup [(SV.agg [(SV.arr IntKind.u32 16 x4.fst.core.regs), (SV.v (Value.int IntKind.u32 x4.fst.core.pc)), (SV.arr IntKind.u32 12 x4.fst.core.csr), (SV.rd ETy.u8 x4.fst.mem), (SV.v (Value.int IntKind.u64 (IntKind.wrap IntKind.u64 (m.time + (1 : Int))))), (SV.rd ETy.u8 x4.fst.out), (SV.v (Value.bool x4.fst.halted))]), (SV.agg [(SV.v (Value.int IntKind.i64 x4.snd.cause)), (SV.v (Value.int IntKind.u32 x4.snd.tval))])]))))
 else
 (Tree.fail))))
 else
 (bif (bne x0.snd.cause (0 : Int)) then
 (Tree.letv (okO [AT.core]) (K.enter x2.core x0.snd) fun x3 =>
 (Tree.leaf (SV.tup [(SV.agg [(SV.arr IntKind.u32 16 x3.regs), (SV.v (Value.int IntKind.u32 x3.pc)), (SV.arr IntKind.u32 12 x3.csr), (SV.rd ETy.u8 x2.mem), (SV.v (Value.int IntKind.u64 (IntKind.wrap IntKind.u64 (m.time + (1 : Int))))), (SV.rd ETy.u8 x2.out), (SV.v (Value.bool x2.halted))]), (SV.agg [(SV.v (Value.int IntKind.i64 x0.snd.cause)), (SV.v (Value.int IntKind.u32 x0.snd.tval))])])))
 else
 (Tree.leaf (SV.tup [(SV.agg [(SV.arr IntKind.u32 16 x2.core.regs), (SV.v (Value.int IntKind.u32 x2.core.pc)), (SV.arr IntKind.u32 12 x2.core.csr), (SV.rd ETy.u8 x2.mem), (SV.v (Value.int IntKind.u64 (IntKind.wrap IntKind.u64 (m.time + (1 : Int))))), (SV.rd ETy.u8 x2.out), (SV.v (Value.bool x2.halted))]), (SV.agg [(SV.v (Value.int IntKind.i64 x0.snd.cause)), (SV.v (Value.int IntKind.u32 x0.snd.tval))])])))))
 else
 (Tree.fail))
 else
 (bif (BEq.beq x0.snd.cause (0 : Int)) then
 (Tree.letv (okO [AT.b]) (K.privd x0.fst.op) fun x2 =>
 (bif x2 then
 (bif (bne x0.snd.cause (0 : Int)) then
 (Tree.letv (okO [AT.core]) (K.enter m.core x0.snd) fun x3 =>
 (Tree.leaf (SV.tup [(SV.agg [(SV.arr IntKind.u32 16 x3.regs), (SV.v (Value.int IntKind.u32 x3.pc)), (SV.arr IntKind.u32 12 x3.csr), (SV.rd ETy.u8 m.mem), (SV.v (Value.int IntKind.u64 (IntKind.wrap IntKind.u64 (m.time + (1 : Int))))), (SV.rd ETy.u8 m.out), (SV.v (Value.bool m.halted))]), (SV.agg [(SV.v (Value.int IntKind.i64 x0.snd.cause)), (SV.v (Value.int IntKind.u32 x0.snd.tval))])])))
 else
 (Tree.leaf (SV.tup [(SV.agg [(SV.arr IntKind.u32 16 m.core.regs), (SV.v (Value.int IntKind.u32 m.core.pc)), (SV.arr IntKind.u32 12 m.core.csr), (SV.rd ETy.u8 m.mem), (SV.v (Value.int IntKind.u64 (IntKind.wrap IntKind.u64 (m.time + (1 : Int))))), (SV.rd ETy.u8 m.out), (SV.v (Value.bool m.halted))]), (SV.agg [(SV.v (Value.int IntKind.i64 x0.snd.cause)), (SV.v (Value.int IntKind.u32 x0.snd.tval))])])))
 else
 (bif (decide (And ((1 : Int) ≤ x0.fst.op) (And (x0.fst.op ≤ (20 : Int)) ((List.length m.mem) ≤ 1099511627776)))) then
 (Tree.letv (okO [AT.mach, AT.trap]) (K.exec m x0.fst) fun x3 =>
 (bif (bne x3.snd.cause (0 : Int)) then
 (Tree.letv (okO [AT.core]) (K.enter x3.fst.core x3.snd) fun x4 =>
 (Tree.leaf (SV.tup [(SV.agg [(SV.arr IntKind.u32 16 x4.regs), (SV.v (Value.int IntKind.u32 x4.pc)), (SV.arr IntKind.u32 12 x4.csr), (SV.rd ETy.u8 x3.fst.mem), (SV.v (Value.int IntKind.u64 (IntKind.wrap IntKind.u64 (m.time + (1 : Int))))), (SV.rd ETy.u8 x3.fst.out), (SV.v (Value.bool x3.fst.halted))]), (SV.agg [(SV.v (Value.int IntKind.i64 x3.snd.cause)), (SV.v (Value.int IntKind.u32 x3.snd.tval))])])))
 else
 (Tree.leaf (SV.tup [(SV.agg [(SV.arr IntKind.u32 16 x3.fst.core.regs), (SV.v (Value.int IntKind.u32 x3.fst.core.pc)), (SV.arr IntKind.u32 12 x3.fst.core.csr), (SV.rd ETy.u8 x3.fst.mem), (SV.v (Value.int IntKind.u64 (IntKind.wrap IntKind.u64 (m.time + (1 : Int))))), (SV.rd ETy.u8 x3.fst.out), (SV.v (Value.bool x3.fst.halted))]), (SV.agg [(SV.v (Value.int IntKind.i64 x3.snd.cause)), (SV.v (Value.int IntKind.u32 x3.snd.tval))])]))))
 else
 (Tree.fail))))
 else
 (bif (bne x0.snd.cause (0 : Int)) then
 (Tree.letv (okO [AT.core]) (K.enter m.core x0.snd) fun x2 =>
 (Tree.leaf (SV.tup [(SV.agg [(SV.arr IntKind.u32 16 x2.regs), (SV.v (Value.int IntKind.u32 x2.pc)), (SV.arr IntKind.u32 12 x2.csr), (SV.rd ETy.u8 m.mem), (SV.v (Value.int IntKind.u64 (IntKind.wrap IntKind.u64 (m.time + (1 : Int))))), (SV.rd ETy.u8 m.out), (SV.v (Value.bool m.halted))]), (SV.agg [(SV.v (Value.int IntKind.i64 x0.snd.cause)), (SV.v (Value.int IntKind.u32 x0.snd.tval))])])))
 else
 (Tree.leaf (SV.tup [(SV.agg [(SV.arr IntKind.u32 16 m.core.regs), (SV.v (Value.int IntKind.u32 m.core.pc)), (SV.arr IntKind.u32 12 m.core.csr), (SV.rd ETy.u8 m.mem), (SV.v (Value.int IntKind.u64 (IntKind.wrap IntKind.u64 (m.time + (1 : Int))))), (SV.rd ETy.u8 m.out), (SV.v (Value.bool m.halted))]), (SV.agg [(SV.v (Value.int IntKind.i64 x0.snd.cause)), (SV.v (Value.int IntKind.u32 x0.snd.tval))])]))))))
 else
 (bif (BEq.beq x0.snd.cause (0 : Int)) then
 (Tree.letv (okO [AT.b]) (K.privd x0.fst.op) fun x1 =>
 (bif x1 then
 (bif (bne x0.snd.cause (0 : Int)) then
 (Tree.letv (okO [AT.core]) (K.enter m.core x0.snd) fun x2 =>
 (Tree.leaf (SV.tup [(SV.agg [(SV.arr IntKind.u32 16 x2.regs), (SV.v (Value.int IntKind.u32 x2.pc)), (SV.arr IntKind.u32 12 x2.csr), (SV.rd ETy.u8 m.mem), (SV.v (Value.int IntKind.u64 (IntKind.wrap IntKind.u64 (m.time + (1 : Int))))), (SV.rd ETy.u8 m.out), (SV.v (Value.bool m.halted))]), (SV.agg [(SV.v (Value.int IntKind.i64 x0.snd.cause)), (SV.v (Value.int IntKind.u32 x0.snd.tval))])])))
 else
 (Tree.leaf (SV.tup [(SV.agg [(SV.arr IntKind.u32 16 m.core.regs), (SV.v (Value.int IntKind.u32 m.core.pc)), (SV.arr IntKind.u32 12 m.core.csr), (SV.rd ETy.u8 m.mem), (SV.v (Value.int IntKind.u64 (IntKind.wrap IntKind.u64 (m.time + (1 : Int))))), (SV.rd ETy.u8 m.out), (SV.v (Value.bool m.halted))]), (SV.agg [(SV.v (Value.int IntKind.i64 x0.snd.cause)), (SV.v (Value.int IntKind.u32 x0.snd.tval))])])))
 else
 (bif (decide (And ((1 : Int) ≤ x0.fst.op) (And (x0.fst.op ≤ (20 : Int)) ((List.length m.mem) ≤ 1099511627776)))) then
 (Tree.letv (okO [AT.mach, AT.trap]) (K.exec m x0.fst) fun x2 =>
 (bif (bne x2.snd.cause (0 : Int)) then
 (Tree.letv (okO [AT.core]) (K.enter x2.fst.core x2.snd) fun x3 =>
 (Tree.leaf (SV.tup [(SV.agg [(SV.arr IntKind.u32 16 x3.regs), (SV.v (Value.int IntKind.u32 x3.pc)), (SV.arr IntKind.u32 12 x3.csr), (SV.rd ETy.u8 x2.fst.mem), (SV.v (Value.int IntKind.u64 (IntKind.wrap IntKind.u64 (m.time + (1 : Int))))), (SV.rd ETy.u8 x2.fst.out), (SV.v (Value.bool x2.fst.halted))]), (SV.agg [(SV.v (Value.int IntKind.i64 x2.snd.cause)), (SV.v (Value.int IntKind.u32 x2.snd.tval))])])))
 else
 (Tree.leaf (SV.tup [(SV.agg [(SV.arr IntKind.u32 16 x2.fst.core.regs), (SV.v (Value.int IntKind.u32 x2.fst.core.pc)), (SV.arr IntKind.u32 12 x2.fst.core.csr), (SV.rd ETy.u8 x2.fst.mem), (SV.v (Value.int IntKind.u64 (IntKind.wrap IntKind.u64 (m.time + (1 : Int))))), (SV.rd ETy.u8 x2.fst.out), (SV.v (Value.bool x2.fst.halted))]), (SV.agg [(SV.v (Value.int IntKind.i64 x2.snd.cause)), (SV.v (Value.int IntKind.u32 x2.snd.tval))])]))))
 else
 (Tree.fail))))
 else
 (bif (bne x0.snd.cause (0 : Int)) then
 (Tree.letv (okO [AT.core]) (K.enter m.core x0.snd) fun x1 =>
 (Tree.leaf (SV.tup [(SV.agg [(SV.arr IntKind.u32 16 x1.regs), (SV.v (Value.int IntKind.u32 x1.pc)), (SV.arr IntKind.u32 12 x1.csr), (SV.rd ETy.u8 m.mem), (SV.v (Value.int IntKind.u64 (IntKind.wrap IntKind.u64 (m.time + (1 : Int))))), (SV.rd ETy.u8 m.out), (SV.v (Value.bool m.halted))]), (SV.agg [(SV.v (Value.int IntKind.i64 x0.snd.cause)), (SV.v (Value.int IntKind.u32 x0.snd.tval))])])))
 else
 (Tree.leaf (SV.tup [(SV.agg [(SV.arr IntKind.u32 16 m.core.regs), (SV.v (Value.int IntKind.u32 m.core.pc)), (SV.arr IntKind.u32 12 m.core.csr), (SV.rd ETy.u8 m.mem), (SV.v (Value.int IntKind.u64 (IntKind.wrap IntKind.u64 (m.time + (1 : Int))))), (SV.rd ETy.u8 m.out), (SV.v (Value.bool m.halted))]), (SV.agg [(SV.v (Value.int IntKind.i64 x0.snd.cause)), (SV.v (Value.int IntKind.u32 x0.snd.tval))])])))))) := by kernel_rfl
section
attribute [local irreducible] evF evFL evFLs
theorem a_ref13_Plain (m : PMach) (hpre : m.mem.length ≤ 1099511627776 ∧ m.out.length ≤ 1099511627776) (ok_m : okMach m) : (evF E_ref13_Plain 60 20 (encArgs [.mach] (m, ()))).ends fun out_ => decO [.mach, .trap] out_ = some (K.plain m) := by
  rw [t_ref13_Plain, Tree.ends_holds]
  have hmay := fun h => cur_may (m := m) h
  have hz := fun h => cur_zero (m := m) h
  simp only [Tree.holds_loop, Tree.holds_fork, Tree.holds_next, if_true, Tree.holds_cond, Tree.holds_letv, Tree.holds_leaf, Tree.holds_fail, decO, decA, decTup, decMach, decCore, decTrap, decInstr, decPart, decGuest, decConf, decEvent, decVcpu, decStep, bytesS, boolS, eventsS, intsS, guestsS, vcpusS, rowS, castL, Option.bind_some, Option.map_some, Option.some.injEq, Nat.beq_refl, beq_self_eq_true, Bool.and_self, cond_true, cond_false, eq_self, beq_iff_eq, beq_eq_false_iff_ne, bne_iff_ne, bne_eq_false_iff_eq, ne_eq, decide_eq_true_eq, decide_eq_false_iff_not, ble_true, ble_false, inRange_iff, inRange_false, wrap64]
  have x0 : m.halted = true → K.plain m = (m, ⟨0, 0⟩) := fun h => by unfold K.plain; rw [if_pos h]
  have x1 : m.halted = false → ¬ (K.cur m).2.cause = 0 → K.plain m = K.endS m (K.cur m).2 := fun h c => by unfold K.plain; rw [if_neg (by rw [h]; decide), if_pos c]
  have x2 : m.halted = false → (K.cur m).2.cause = 0 → K.privd (K.cur m).1.op = true → K.plain m = K.endS (K.priv m (K.cur m).1) ⟨0, 0⟩ := fun h c p => by unfold K.plain; rw [if_neg (by rw [h]; decide), if_neg (by simp [c]), if_pos p]
  have x3 : m.halted = false → (K.cur m).2.cause = 0 → K.privd (K.cur m).1.op = false → K.plain m = K.endS (K.exec m (K.cur m).1).1 (K.exec m (K.cur m).1).2 := fun h c p => by unfold K.plain; rw [if_neg (by rw [h]; decide), if_neg (by simp [c]), if_neg (by rw [p]; decide)]
  repeat' (first | refine drop_ok ?_ | intro _ | with_reducible apply And.intro)
  all_goals first
    | omega
    | contradiction
    | (rw [x0 (by assumption)]; done)
    | (rw [x1 (by assumption) (by assumption)]; rfl)
    | (rw [x2 (by assumption) (by assumption) (by assumption), hz (by assumption)]; unfold K.endS; rw [enter_none, K.priv_time]; done)
    | (rw [x3 (by assumption) (by assumption) (by assumption)]; unfold K.endS; rw [exec_time]; first | (rw [enter_zero (by assumption)]; done) | done)
    | (exfalso
       have hm := (hmay (by assumption)).op
       rename_i p q
       apply q
       refine ⟨hm.1, ?_, hpre.1⟩
       have : ¬ (21 ≤ (K.cur m).1.op ∧ (K.cur m).1.op ≤ 25) := fun z => by rw [privd_range.2 z] at p; cases p
       omega)
    | (exfalso; clear x0 x1 x2 x3 hmay hz; simp_all; done)
    | trace_state
  
theorem c_ref13_Plain : SpecOk EB 20 S_ref13_Plain := spec_sig ok_ref13_Plain (n := 60) fun ⟨m, ⟨⟩⟩ h hok => a_ref13_Plain m (of_decide_eq_true h) (ok_mach (okSL_head hok))
end

/-! ref13_Step -/

def S_ref13_Step : Spec := sig [.mach] [.mach, .trap] (fun (m, _) => K.step m) (pre := fun (m, _) => decide (m.mem.length ≤ 1099511627776 ∧ m.out.length ≤ 1099511627776))
noncomputable def E_ref13_Step : Env := EB.adds [(44, S_ref10_Due), (45, S_ref09_Enter), (20, S_ref13_Plain)]

theorem ok_ref13_Step : EnvOk E_ref13_Step := okEB.adds (l := _) ⟨c_ref10_Due, c_ref09_Enter, c_ref13_Plain, trivial⟩

theorem t_ref13_Step (m : PMach) : evF E_ref13_Step 60 19 (encArgs [.mach] (m, ())) = 
 bif m.halted then
 (bif (decide (And ((List.length m.mem) ≤ 1099511627776) ((List.length m.out) ≤ 1099511627776))) then
 (Tree.letv (okO [AT.mach, AT.trap]) (K.plain m) fun x0 =>
 (Tree.leaf (SV.tup [(SV.agg [(SV.arr IntKind.u32 16 x0.fst.core.regs), (SV.v (Value.int IntKind.u32 x0.fst.core.pc)), (SV.arr IntKind.u32 12 x0.fst.core.csr), (SV.rd ETy.u8 x0.fst.mem), (SV.v (Value.int IntKind.u64 x0.fst.time)), (SV.rd ETy.u8 x0.fst.out), (SV.v (Value.bool x0.fst.halted))]), (SV.agg [(SV.v (Value.int IntKind.i64 x0.snd.cause)), (SV.v (Value.int IntKind.u32 x0.snd.tval))])])))
 else
 (Tree.fail))
 else
 (Tree.letv (okO [AT.b]) (K.due m) fun x0 =>
 (bif x0 then
 (Tree.letv (okO [AT.core]) (K.enter m.core (PTrap.mk (6 : Int) (0 : Int))) fun x1 =>
 (Tree.leaf (SV.tup [(SV.agg [(SV.arr IntKind.u32 16 x1.regs), (SV.v (Value.int IntKind.u32 x1.pc)), (SV.arr IntKind.u32 12 x1.csr), (SV.rd ETy.u8 m.mem), (SV.v (Value.int IntKind.u64 (IntKind.wrap IntKind.u64 (m.time + (1 : Int))))), (SV.rd ETy.u8 m.out), (SV.v (Value.bool m.halted))]), (SV.agg [(SV.v (Value.int IntKind.i64 (6 : Int))), (SV.v (Value.int IntKind.u32 (0 : Int)))])])))
 else
 (bif (decide (And ((List.length m.mem) ≤ 1099511627776) ((List.length m.out) ≤ 1099511627776))) then
 (Tree.letv (okO [AT.mach, AT.trap]) (K.plain m) fun x1 =>
 (Tree.leaf (SV.tup [(SV.agg [(SV.arr IntKind.u32 16 x1.fst.core.regs), (SV.v (Value.int IntKind.u32 x1.fst.core.pc)), (SV.arr IntKind.u32 12 x1.fst.core.csr), (SV.rd ETy.u8 x1.fst.mem), (SV.v (Value.int IntKind.u64 x1.fst.time)), (SV.rd ETy.u8 x1.fst.out), (SV.v (Value.bool x1.fst.halted))]), (SV.agg [(SV.v (Value.int IntKind.i64 x1.snd.cause)), (SV.v (Value.int IntKind.u32 x1.snd.tval))])])))
 else
 (Tree.fail)))) := by kernel_rfl
section
attribute [local irreducible] evF evFL evFLs
theorem a_ref13_Step (m : PMach) (hpre : m.mem.length ≤ 1099511627776 ∧ m.out.length ≤ 1099511627776) (ok_m : okMach m) : (evF E_ref13_Step 60 19 (encArgs [.mach] (m, ()))).ends fun out_ => decO [.mach, .trap] out_ = some (K.step m) := by
  rw [t_ref13_Step, Tree.ends_holds]
  simp only [Tree.holds_loop, Tree.holds_fork, Tree.holds_next, if_true, Tree.holds_cond, Tree.holds_letv, Tree.holds_leaf, Tree.holds_fail, decO, decA, decTup, decMach, decCore, decTrap, decInstr, decPart, decGuest, decConf, decEvent, decVcpu, decStep, bytesS, boolS, eventsS, intsS, guestsS, vcpusS, rowS, castL, Option.bind_some, Option.map_some, Option.some.injEq, Nat.beq_refl, beq_self_eq_true, Bool.and_self, cond_true, cond_false, eq_self, beq_iff_eq, beq_eq_false_iff_ne, bne_iff_ne, bne_eq_false_iff_eq, ne_eq, decide_eq_true_eq, decide_eq_false_iff_not, ble_true, ble_false, inRange_iff, inRange_false, wrap64]
  have x0 : ¬ (m.halted = false ∧ K.due m = true) → K.step m = K.plain m := fun h => by unfold K.step; rw [if_neg h]
  have x1 : m.halted = false → K.due m = true → K.step m = K.endS m ⟨6, 0⟩ := fun h c => by unfold K.step; rw [if_pos ⟨h, c⟩]
  repeat' (first | refine drop_ok ?_ | intro _ | with_reducible apply And.intro)
  all_goals first
    | omega
    | contradiction
    | (rw [x1 (by assumption) (by assumption)]; rfl)
    | (rw [x0 (by simp_all)]; done)
    | trace_state
  
theorem c_ref13_Step : SpecOk EB 19 S_ref13_Step := spec_sig ok_ref13_Step (n := 60) fun ⟨m, ⟨⟩⟩ h hok => a_ref13_Step m (of_decide_eq_true h) (ok_mach (okSL_head hok))
end

/-! ref17_Save -/

def S_ref17_Save : Spec := sig [.mach, .vcpu] [.vcpu] (fun (host, v, _) => K.save host v)
noncomputable def E_ref17_Save : Env := EB.adds [(75, S_ref07_Clean)]

theorem ok_ref17_Save : EnvOk E_ref17_Save := okEB.adds (l := _) ⟨c_ref07_Clean, trivial⟩

theorem t_ref17_Save (host : PMach) (v : PVcpu) : evF E_ref17_Save 60 42 (encArgs [.mach, .vcpu] (host, v, ())) = 
 Tree.letv (okO [(AT.a IntKind.u32 16)]) (List.set host.core.regs 0 (0 : Int)) fun x0 =>
 (Tree.leaf (SV.agg [(SV.arr IntKind.u32 16 x0), (SV.v (Value.int IntKind.u32 (List.getD host.core.csr 1 (0 : Int)))), (SV.arr IntKind.u32 12 v.core.csr), (SV.rd ETy.u8 v.out), (SV.v (Value.bool v.halted)), (SV.v (Value.int IntKind.i64 v.done)), (SV.rd ETy.event v.log)])) := by kernel_rfl
section
attribute [local irreducible] evF evFL evFLs
theorem a_ref17_Save (host : PMach) (v : PVcpu) (ok_host : okMach host) (ok_v : okVcpu v) : (evF E_ref17_Save 60 42 (encArgs [.mach, .vcpu] (host, v, ()))).ends fun out_ => decO [.vcpu] out_ = some (K.save host v) := by
  rw [t_ref17_Save, Tree.ends_holds]
  simp only [Tree.holds_loop, Tree.holds_fork, Tree.holds_next, if_true, Tree.holds_cond, Tree.holds_letv, Tree.holds_leaf, Tree.holds_fail, decO, decA, decTup, decMach, decCore, decTrap, decInstr, decPart, decGuest, decConf, decEvent, decVcpu, decStep, bytesS, boolS, eventsS, intsS, guestsS, vcpusS, rowS, castL, Option.bind_some, Option.map_some, Option.some.injEq, Nat.beq_refl, beq_self_eq_true, Bool.and_self, cond_true, cond_false, eq_self, beq_iff_eq, beq_eq_false_iff_ne, bne_iff_ne, bne_eq_false_iff_eq, ne_eq, decide_eq_true_eq, decide_eq_false_iff_not, ble_true, ble_false, inRange_iff, inRange_false, K.save]
  repeat' (first | refine drop_ok ?_ | intro _ | with_reducible apply And.intro)
  all_goals first | trivial | rfl | (simp_all; done) | trace_state
  
theorem c_ref17_Save : SpecOk EB 42 S_ref17_Save := spec_sig ok_ref17_Save (n := 60) fun ⟨host, v, ⟨⟩⟩ h hok => a_ref17_Save host v (ok_mach (okSL_head hok)) (ok_vcpu (okSL_head (okSL_tail hok)))
end

/-! ref21_Ours -/

def S_ref21_Ours : Spec := sig [.trap] [.b] (fun (t, _) => K.ours t)
noncomputable def E_ref21_Ours : Env := EB.adds []

theorem ok_ref21_Ours : EnvOk E_ref21_Ours := okEB.adds (l := _) trivial

theorem t_ref21_Ours (t : PTrap) : evF E_ref21_Ours 60 71 (encArgs [.trap] (t, ())) = 
 bif (BEq.beq t.cause (0 : Int)) then
 (Tree.leaf (SV.b true))
 else
 (bif (BEq.beq t.cause (6 : Int)) then
 (Tree.leaf (SV.b true))
 else
 (Tree.leaf (SV.b false))) := by kernel_rfl
section
attribute [local irreducible] evF evFL evFLs
theorem a_ref21_Ours (t : PTrap) (ok_t : okTrap t) : (evF E_ref21_Ours 60 71 (encArgs [.trap] (t, ()))).ends fun out_ => decO [.b] out_ = some (K.ours t) := by
  rw [t_ref21_Ours, Tree.ends_holds]
  simp only [Tree.holds_loop, Tree.holds_fork, Tree.holds_next, if_true, Tree.holds_cond, Tree.holds_letv, Tree.holds_leaf, Tree.holds_fail, decO, decA, decTup, decMach, decCore, decTrap, decInstr, decPart, decGuest, decConf, decEvent, decVcpu, decStep, bytesS, boolS, eventsS, intsS, guestsS, vcpusS, rowS, castL, Option.bind_some, Option.map_some, Option.some.injEq, Nat.beq_refl, beq_self_eq_true, Bool.and_self, cond_true, cond_false, eq_self, beq_iff_eq, beq_eq_false_iff_ne, bne_iff_ne, bne_eq_false_iff_eq, ne_eq, decide_eq_true_eq, decide_eq_false_iff_not, ble_true, ble_false, inRange_iff, inRange_false, K.ours]
  repeat' (first | refine drop_ok ?_ | intro _ | with_reducible apply And.intro)
  all_goals first | omega | (simp_all; done)
  
theorem c_ref21_Ours : SpecOk EB 71 S_ref21_Ours := spec_sig ok_ref21_Ours (n := 60) fun ⟨t, ⟨⟩⟩ h hok => a_ref21_Ours t (ok_trap (okSL_head hok))
end

/-! ref19_Can -/

def S_ref19_Can : Spec := sig [.vcpu, .trap] [.b] (fun (v, t, _) => K.can v t)
noncomputable def E_ref19_Can : Env := EB.adds [(79, S_ref02_Decode), (47, S_ref02_Privileged), (24, S_ref06_Super)]

theorem ok_ref19_Can : EnvOk E_ref19_Can := okEB.adds (l := _) ⟨c_ref02_Decode, c_ref02_Privileged, c_ref06_Super, trivial⟩

theorem t_ref19_Can (v : PVcpu) (t : PTrap) : evF E_ref19_Can 60 72 (encArgs [.vcpu, .trap] (v, t, ())) = 
 Tree.letv (okO [AT.instr, AT.b]) (K.decode t.tval) fun x0 =>
 (bif x0.snd then
 (Tree.letv (okO [AT.b]) (K.privd x0.fst.op) fun x1 =>
 (bif x1 then
 (bif (BEq.beq t.cause (2 : Int)) then
 (Tree.letv (okO [AT.b]) (K.super v.core) fun x2 =>
 (bif x2 then
 (Tree.leaf (SV.b true))
 else
 (Tree.leaf (SV.b false))))
 else
 (Tree.leaf (SV.b false)))
 else
 (Tree.leaf (SV.b false))))
 else
 (Tree.leaf (SV.b false))) := by kernel_rfl
section
attribute [local irreducible] evF evFL evFLs
theorem a_ref19_Can (v : PVcpu) (t : PTrap) (ok_v : okVcpu v) (ok_t : okTrap t) : (evF E_ref19_Can 60 72 (encArgs [.vcpu, .trap] (v, t, ()))).ends fun out_ => decO [.b] out_ = some (K.can v t) := by
  rw [t_ref19_Can, Tree.ends_holds]
  simp only [Tree.holds_loop, Tree.holds_fork, Tree.holds_next, if_true, Tree.holds_cond, Tree.holds_letv, Tree.holds_leaf, Tree.holds_fail, decO, decA, decTup, decMach, decCore, decTrap, decInstr, decPart, decGuest, decConf, decEvent, decVcpu, decStep, bytesS, boolS, eventsS, intsS, guestsS, vcpusS, rowS, castL, Option.bind_some, Option.map_some, Option.some.injEq, Nat.beq_refl, beq_self_eq_true, Bool.and_self, cond_true, cond_false, eq_self, beq_iff_eq, beq_eq_false_iff_ne, bne_iff_ne, bne_eq_false_iff_eq, ne_eq, decide_eq_true_eq, decide_eq_false_iff_not, ble_true, ble_false, inRange_iff, inRange_false, K.can, K.isPriv]
  repeat' (first | refine drop_ok ?_ | intro _ | with_reducible apply And.intro)
  all_goals simp_all
  
theorem c_ref19_Can : SpecOk EB 72 S_ref19_Can := spec_sig ok_ref19_Can (n := 60) fun ⟨v, t, ⟨⟩⟩ h hok => a_ref19_Can v t (ok_vcpu (okSL_head hok)) (ok_trap (okSL_head (okSL_tail hok)))
end

/-! ref12_Reads -/

def S_ref12_Reads : Spec := sig [.instr] [.b] (fun (i, _) => K.reads i)
noncomputable def E_ref12_Reads : Env := EB.adds []

theorem ok_ref12_Reads : EnvOk E_ref12_Reads := okEB.adds (l := _) trivial

theorem t_ref12_Reads (i : PInstr) : evF E_ref12_Reads 60 110 (encArgs [.instr] (i, ())) = 
 bif (BEq.beq i.op (21 : Int)) then
 (bif (BEq.beq i.imm (7 : Int)) then
 (Tree.leaf (SV.b true))
 else
 (bif (BEq.beq i.imm (8 : Int)) then
 (Tree.leaf (SV.b true))
 else
 (Tree.leaf (SV.b false))))
 else
 (Tree.leaf (SV.b false)) := by kernel_rfl
section
attribute [local irreducible] evF evFL evFLs
theorem a_ref12_Reads (i : PInstr) (ok_i : okInstr i) : (evF E_ref12_Reads 60 110 (encArgs [.instr] (i, ()))).ends fun out_ => decO [.b] out_ = some (K.reads i) := by
  rw [t_ref12_Reads, Tree.ends_holds]
  simp only [Tree.holds_loop, Tree.holds_fork, Tree.holds_next, if_true, Tree.holds_cond, Tree.holds_letv, Tree.holds_leaf, Tree.holds_fail, decO, decA, decTup, decMach, decCore, decTrap, decInstr, decPart, decGuest, decConf, decEvent, decVcpu, decStep, bytesS, boolS, eventsS, intsS, guestsS, vcpusS, rowS, castL, Option.bind_some, Option.map_some, Option.some.injEq, Nat.beq_refl, beq_self_eq_true, Bool.and_self, cond_true, cond_false, eq_self, beq_iff_eq, beq_eq_false_iff_ne, bne_iff_ne, bne_eq_false_iff_eq, ne_eq, decide_eq_true_eq, decide_eq_false_iff_not, ble_true, ble_false, inRange_iff, inRange_false]
  repeat' (first | refine drop_ok ?_ | intro _ | with_reducible apply And.intro)
  all_goals simp_all [K.reads]
  
theorem c_ref12_Reads : SpecOk EB 110 S_ref12_Reads := spec_sig ok_ref12_Reads (n := 60) fun ⟨i, ⟨⟩⟩ h hok => a_ref12_Reads i (ok_instr (okSL_head hok))
end

/-! ref19_Do -/

def S_ref19_Do : Spec := sig [.vcpu, .i .u32, .i .u64] [.vcpu] (fun (v, w, time, _) => K.emu v w time) (pre := fun (v, w, time, _) => decide (v.out.length ≤ 1099511627776 ∧ v.log.length ≤ 1099511627776))
noncomputable def E_ref19_Do : Env := EB.adds [(79, S_ref02_Decode), (47, S_ref02_Privileged), (48, S_ref12_Do), (110, S_ref12_Reads)]

theorem ok_ref19_Do : EnvOk E_ref19_Do := okEB.adds (l := _) ⟨c_ref02_Decode, c_ref02_Privileged, c_ref12_Do, c_ref12_Reads, trivial⟩

theorem t_ref19_Do (v : PVcpu) (w : Int) (time : Int) : evF E_ref19_Do 60 73 (encArgs [.vcpu, .i .u32, .i .u64] (v, w, time, ())) = 
 Tree.letv (okO [AT.instr, AT.b]) (K.decode w) fun x0 =>
 (bif x0.snd then
 (Tree.letv (okO [AT.b]) (K.privd x0.fst.op) fun x1 =>
 (bif x1 then
 (bif v.halted then
 (bif (decide ((List.length v.out) ≤ 1099511627776)) then
 (Tree.letv (okO [AT.mach]) (K.priv (PMach.mk v.core [] time v.out true) x0.fst) fun x2 =>
 (bif x2.halted then
 (Tree.letv (okO [AT.b]) (K.reads x0.fst) fun x3 =>
 (bif x3 then
 (bif (Bool.or (Bool.not (Nat.beq (List.length v.log) 0)) true) then
 (bif (Nat.ble ((0 + (List.length v.log)) * 24) 140737488355328) then
 (bif (Nat.ble (((List.length v.log) + 1) * 24) 140737488355328) then
 (Tree.leaf (SV.agg [(SV.arr IntKind.u32 16 x2.core.regs), (SV.v (Value.int IntKind.u32 x2.core.pc)), (SV.arr IntKind.u32 12 x2.core.csr), (SV.rd ETy.u8 x2.out), (SV.b true), (SV.v (Value.int IntKind.i64 (IntKind.wrap IntKind.i64 (v.done + (1 : Int))))), (SV.rd ETy.event (List.append v.log [(PEvent.mk (IntKind.wrap IntKind.i64 ((IntKind.wrap IntKind.i64 x0.fst.imm) - (5 : Int))) v.done time)]))]))
 else
 (Tree.fail))
 else
 (Tree.fail))
 else
 (Tree.fail))
 else
 (Tree.leaf (SV.agg [(SV.arr IntKind.u32 16 x2.core.regs), (SV.v (Value.int IntKind.u32 x2.core.pc)), (SV.arr IntKind.u32 12 x2.core.csr), (SV.rd ETy.u8 x2.out), (SV.b true), (SV.v (Value.int IntKind.i64 (IntKind.wrap IntKind.i64 (v.done + (1 : Int))))), (SV.rd ETy.event v.log)]))))
 else
 (Tree.letv (okO [AT.b]) (K.reads x0.fst) fun x3 =>
 (bif x3 then
 (bif (Bool.or (Bool.not (Nat.beq (List.length v.log) 0)) true) then
 (bif (Nat.ble ((0 + (List.length v.log)) * 24) 140737488355328) then
 (bif (Nat.ble (((List.length v.log) + 1) * 24) 140737488355328) then
 (Tree.leaf (SV.agg [(SV.arr IntKind.u32 16 x2.core.regs), (SV.v (Value.int IntKind.u32 x2.core.pc)), (SV.arr IntKind.u32 12 x2.core.csr), (SV.rd ETy.u8 x2.out), (SV.b false), (SV.v (Value.int IntKind.i64 (IntKind.wrap IntKind.i64 (v.done + (1 : Int))))), (SV.rd ETy.event (List.append v.log [(PEvent.mk (IntKind.wrap IntKind.i64 ((IntKind.wrap IntKind.i64 x0.fst.imm) - (5 : Int))) v.done time)]))]))
 else
 (Tree.fail))
 else
 (Tree.fail))
 else
 (Tree.fail))
 else
 (Tree.leaf (SV.agg [(SV.arr IntKind.u32 16 x2.core.regs), (SV.v (Value.int IntKind.u32 x2.core.pc)), (SV.arr IntKind.u32 12 x2.core.csr), (SV.rd ETy.u8 x2.out), (SV.b false), (SV.v (Value.int IntKind.i64 (IntKind.wrap IntKind.i64 (v.done + (1 : Int))))), (SV.rd ETy.event v.log)]))))))
 else
 (Tree.fail))
 else
 (bif (decide ((List.length v.out) ≤ 1099511627776)) then
 (Tree.letv (okO [AT.mach]) (K.priv (PMach.mk v.core [] time v.out false) x0.fst) fun x2 =>
 (bif x2.halted then
 (Tree.letv (okO [AT.b]) (K.reads x0.fst) fun x3 =>
 (bif x3 then
 (bif (Bool.or (Bool.not (Nat.beq (List.length v.log) 0)) true) then
 (bif (Nat.ble ((0 + (List.length v.log)) * 24) 140737488355328) then
 (bif (Nat.ble (((List.length v.log) + 1) * 24) 140737488355328) then
 (Tree.leaf (SV.agg [(SV.arr IntKind.u32 16 x2.core.regs), (SV.v (Value.int IntKind.u32 x2.core.pc)), (SV.arr IntKind.u32 12 x2.core.csr), (SV.rd ETy.u8 x2.out), (SV.b true), (SV.v (Value.int IntKind.i64 (IntKind.wrap IntKind.i64 (v.done + (1 : Int))))), (SV.rd ETy.event (List.append v.log [(PEvent.mk (IntKind.wrap IntKind.i64 ((IntKind.wrap IntKind.i64 x0.fst.imm) - (5 : Int))) v.done time)]))]))
 else
 (Tree.fail))
 else
 (Tree.fail))
 else
 (Tree.fail))
 else
 (Tree.leaf (SV.agg [(SV.arr IntKind.u32 16 x2.core.regs), (SV.v (Value.int IntKind.u32 x2.core.pc)), (SV.arr IntKind.u32 12 x2.core.csr), (SV.rd ETy.u8 x2.out), (SV.b true), (SV.v (Value.int IntKind.i64 (IntKind.wrap IntKind.i64 (v.done + (1 : Int))))), (SV.rd ETy.event v.log)]))))
 else
 (Tree.letv (okO [AT.b]) (K.reads x0.fst) fun x3 =>
 (bif x3 then
 (bif (Bool.or (Bool.not (Nat.beq (List.length v.log) 0)) true) then
 (bif (Nat.ble ((0 + (List.length v.log)) * 24) 140737488355328) then
 (bif (Nat.ble (((List.length v.log) + 1) * 24) 140737488355328) then
 (Tree.leaf (SV.agg [(SV.arr IntKind.u32 16 x2.core.regs), (SV.v (Value.int IntKind.u32 x2.core.pc)), (SV.arr IntKind.u32 12 x2.core.csr), (SV.rd ETy.u8 x2.out), (SV.b false), (SV.v (Value.int IntKind.i64 (IntKind.wrap IntKind.i64 (v.done + (1 : Int))))), (SV.rd ETy.event (List.append v.log [(PEvent.mk (IntKind.wrap IntKind.i64 ((IntKind.wrap IntKind.i64 x0.fst.imm) - (5 : Int))) v.done time)]))]))
 else
 (Tree.fail))
 else
 (Tree.fail))
 else
 (Tree.fail))
 else
 (Tree.leaf (SV.agg [(SV.arr IntKind.u32 16 x2.core.regs), (SV.v (Value.int IntKind.u32 x2.core.pc)), (SV.arr IntKind.u32 12 x2.core.csr), (SV.rd ETy.u8 x2.out), (SV.b false), (SV.v (Value.int IntKind.i64 (IntKind.wrap IntKind.i64 (v.done + (1 : Int))))), (SV.rd ETy.event v.log)]))))))
 else
 (Tree.fail)))
 else
 (Tree.leaf (SV.agg [(SV.arr IntKind.u32 16 v.core.regs), (SV.v (Value.int IntKind.u32 v.core.pc)), (SV.arr IntKind.u32 12 v.core.csr), (SV.rd ETy.u8 v.out), (SV.v (Value.bool v.halted)), (SV.v (Value.int IntKind.i64 v.done)), (SV.rd ETy.event v.log)]))))
 else
 (Tree.leaf (SV.agg [(SV.arr IntKind.u32 16 v.core.regs), (SV.v (Value.int IntKind.u32 v.core.pc)), (SV.arr IntKind.u32 12 v.core.csr), (SV.rd ETy.u8 v.out), (SV.v (Value.bool v.halted)), (SV.v (Value.int IntKind.i64 v.done)), (SV.rd ETy.event v.log)]))) := by kernel_rfl
section
attribute [local irreducible] evF evFL evFLs
theorem a_ref19_Do (v : PVcpu) (w : Int) (time : Int) (hpre : v.out.length ≤ 1099511627776 ∧ v.log.length ≤ 1099511627776) (ok_v : okVcpu v) (ok_w : okI .u32 w) (ok_time : okI .u64 time) : (evF E_ref19_Do 60 73 (encArgs [.vcpu, .i .u32, .i .u64] (v, w, time, ()))).ends fun out_ => decO [.vcpu] out_ = some (K.emu v w time) := by
  rw [t_ref19_Do, Tree.ends_holds]
  have e1 : K.isPriv w = true → K.emu v w time = (let i := (K.decode w).1; let m := K.priv (K.vmach v [] time) i; { core := m.core, out := m.out, halted := m.halted, done := K.inc v.done, log := if K.reads i = true then v.log ++ [K.seen i v.done time] else v.log }) := fun h => by unfold K.emu; rw [if_pos h]
  have e2 : K.isPriv w = false → K.emu v w time = v := fun h => by unfold K.emu; rw [if_neg (by rw [h]; decide)]
  simp only [K.vmach, K.isPriv] at e1 e2
  have hk : K.reads (K.decode w).1 = true → IntKind.i64.wrap (IntKind.i64.wrap (K.decode w).1.imm - 5) = (if (K.decode w).1.imm = 8 then 3 else 2) := fun h => by
    simp only [K.reads, Bool.and_eq_true, Bool.or_eq_true, beq_iff_eq] at h
    rcases h.2 with h | h <;> rw [h] <;> decide
  simp only [Tree.holds_loop, Tree.holds_fork, Tree.holds_next, if_true, Tree.holds_cond, Tree.holds_letv, Tree.holds_leaf, Tree.holds_fail, decO, decA, decTup, decMach, decCore, decTrap, decInstr, decPart, decGuest, decConf, decEvent, decVcpu, decStep, bytesS, boolS, eventsS, intsS, guestsS, vcpusS, rowS, castL, Option.bind_some, Option.map_some, Option.some.injEq, Nat.beq_refl, beq_self_eq_true, Bool.and_self, cond_true, cond_false, eq_self, beq_iff_eq, beq_eq_false_iff_ne, bne_iff_ne, bne_eq_false_iff_eq, ne_eq, decide_eq_true_eq, decide_eq_false_iff_not, ble_true, ble_false, inRange_iff, inRange_false, List.drop_zero, Int.ofNat_eq_natCast, Int.toNat_natCast, List.take_length, List.append_eq, Bool.and_eq_true, decide_true, and_true, true_and, K.vwith, K.vmach, wrap_inc ok_v.done]
  repeat' (first | refine drop_ok ?_ | intro _ | with_reducible apply And.intro)
  all_goals first | omega | (have q := hk (by assumption); rw [e1 (by simp_all)]; clear e1 e2 hk; simp_all [K.seen]; done) | (rw [e1 (by simp_all)]; clear e1 e2 hk; simp_all; done) | (rw [e2 (by simp_all)]; done) | (clear e1 e2 hk; simp_all; done) | (clear e1 e2 hk; simp_all; omega) | trace_state
  
theorem c_ref19_Do : SpecOk EB 73 S_ref19_Do := spec_sig ok_ref19_Do (n := 60) fun ⟨v, w, time, ⟨⟩⟩ h hok => a_ref19_Do v w time (of_decide_eq_true h) (ok_vcpu (okSL_head hok)) (ok_int (okSL_head (okSL_tail hok))) (ok_int (okSL_head (okSL_tail (okSL_tail hok))))
end

/-! ref21_Do -/

def S_ref21_Do : Spec := sig [.vcpu, .trap, .i .u64] [.vcpu] (fun (v, t, time, _) => K.handle v t time) (pre := fun (v, t, time, _) => decide (v.out.length ≤ 1099511627776 ∧ v.log.length ≤ 1099511627776))
noncomputable def E_ref21_Do : Env := EB.adds [(71, S_ref21_Ours), (72, S_ref19_Can), (73, S_ref19_Do), (74, S_ref20_Do)]

theorem ok_ref21_Do : EnvOk E_ref21_Do := okEB.adds (l := _) ⟨c_ref21_Ours, c_ref19_Can, c_ref19_Do, c_ref20_Do, trivial⟩

theorem t_ref21_Do (v : PVcpu) (t : PTrap) (time : Int) : evF E_ref21_Do 60 41 (encArgs [.vcpu, .trap, .i .u64] (v, t, time, ())) = 
 Tree.letv (okO [AT.b]) (K.ours t) fun x0 =>
 (bif x0 then
 (Tree.leaf (SV.agg [(SV.arr IntKind.u32 16 v.core.regs), (SV.v (Value.int IntKind.u32 v.core.pc)), (SV.arr IntKind.u32 12 v.core.csr), (SV.rd ETy.u8 v.out), (SV.v (Value.bool v.halted)), (SV.v (Value.int IntKind.i64 v.done)), (SV.rd ETy.event v.log)]))
 else
 (Tree.letv (okO [AT.b]) (K.can v t) fun x1 =>
 (bif x1 then
 (bif (decide (And ((List.length v.out) ≤ 1099511627776) ((List.length v.log) ≤ 1099511627776))) then
 (Tree.letv (okO [AT.vcpu]) (K.emu v t.tval time) fun x2 =>
 (Tree.leaf (SV.agg [(SV.arr IntKind.u32 16 x2.core.regs), (SV.v (Value.int IntKind.u32 x2.core.pc)), (SV.arr IntKind.u32 12 x2.core.csr), (SV.rd ETy.u8 x2.out), (SV.v (Value.bool x2.halted)), (SV.v (Value.int IntKind.i64 x2.done)), (SV.rd ETy.event x2.log)])))
 else
 (Tree.fail))
 else
 (Tree.letv (okO [AT.vcpu]) (K.reflect v t) fun x2 =>
 (Tree.leaf (SV.agg [(SV.arr IntKind.u32 16 x2.core.regs), (SV.v (Value.int IntKind.u32 x2.core.pc)), (SV.arr IntKind.u32 12 x2.core.csr), (SV.rd ETy.u8 x2.out), (SV.v (Value.bool x2.halted)), (SV.v (Value.int IntKind.i64 x2.done)), (SV.rd ETy.event x2.log)])))))) := by kernel_rfl
section
attribute [local irreducible] evF evFL evFLs
theorem a_ref21_Do (v : PVcpu) (t : PTrap) (time : Int) (hpre : v.out.length ≤ 1099511627776 ∧ v.log.length ≤ 1099511627776) (ok_v : okVcpu v) (ok_t : okTrap t) (ok_time : okI .u64 time) : (evF E_ref21_Do 60 41 (encArgs [.vcpu, .trap, .i .u64] (v, t, time, ()))).ends fun out_ => decO [.vcpu] out_ = some (K.handle v t time) := by
  rw [t_ref21_Do, Tree.ends_holds]
  simp only [Tree.holds_loop, Tree.holds_fork, Tree.holds_next, if_true, Tree.holds_cond, Tree.holds_letv, Tree.holds_leaf, Tree.holds_fail, decO, decA, decTup, decMach, decCore, decTrap, decInstr, decPart, decGuest, decConf, decEvent, decVcpu, decStep, bytesS, boolS, eventsS, intsS, guestsS, vcpusS, rowS, castL, Option.bind_some, Option.map_some, Option.some.injEq, Nat.beq_refl, beq_self_eq_true, Bool.and_self, cond_true, cond_false, eq_self, beq_iff_eq, beq_eq_false_iff_ne, bne_iff_ne, bne_eq_false_iff_eq, ne_eq, decide_eq_true_eq, decide_eq_false_iff_not, ble_true, ble_false, inRange_iff, inRange_false, K.handle]
  repeat' (first | refine drop_ok ?_ | intro _ | with_reducible apply And.intro)
  all_goals first | omega | (simp_all; done)
  
theorem c_ref21_Do : SpecOk EB 41 S_ref21_Do := spec_sig ok_ref21_Do (n := 60) fun ⟨v, t, time, ⟨⟩⟩ h hok => a_ref21_Do v t time (of_decide_eq_true h) (ok_vcpu (okSL_head hok)) (ok_trap (okSL_head (okSL_tail hok))) (ok_int (okSL_head (okSL_tail (okSL_tail hok))))
end

/-! ref17_Bare -/

def S_ref17_Bare : Spec := sig [.mach] [.mach] (fun (host, _) => K.clear host)
noncomputable def E_ref17_Bare : Env := EB.adds []

theorem ok_ref17_Bare : EnvOk E_ref17_Bare := okEB.adds (l := _) trivial

theorem t_ref17_Bare (host : PMach) : evF E_ref17_Bare 60 43 (encArgs [.mach] (host, ())) = 
 Tree.leaf (SV.agg [(SV.arr IntKind.u32 16 (List.set (List.set (List.set (List.set (List.set (List.set (List.set (List.set (List.set (List.set (List.set (List.set (List.set (List.set (List.set (List.set host.core.regs 0 (0 : Int)) 1 (0 : Int)) 2 (0 : Int)) 3 (0 : Int)) 4 (0 : Int)) 5 (0 : Int)) 6 (0 : Int)) 7 (0 : Int)) 8 (0 : Int)) 9 (0 : Int)) 10 (0 : Int)) 11 (0 : Int)) 12 (0 : Int)) 13 (0 : Int)) 14 (0 : Int)) 15 (0 : Int))), (SV.v (Value.int IntKind.u32 (0 : Int))), (SV.arr IntKind.u32 12 host.core.csr), (SV.rd ETy.u8 host.mem), (SV.v (Value.int IntKind.u64 host.time)), (SV.rd ETy.u8 host.out), (SV.v (Value.bool host.halted))]) := by kernel_rfl
section
attribute [local irreducible] evF evFL evFLs
theorem a_ref17_Bare (host : PMach) (ok_host : okMach host) : (evF E_ref17_Bare 60 43 (encArgs [.mach] (host, ()))).ends fun out_ => decO [.mach] out_ = some (K.clear host) := by
  rw [t_ref17_Bare, Tree.ends_holds]
  obtain ⟨r, hr⟩ : ∃ r, r = host.core.regs := ⟨_, rfl⟩
  have hl : r.length = 16 := by rw [hr]; exact ok_host.core.regs.1
  simp only [Tree.holds_loop, Tree.holds_fork, Tree.holds_next, if_true, Tree.holds_cond, Tree.holds_letv, Tree.holds_leaf, Tree.holds_fail, decO, decA, decTup, decMach, decCore, decTrap, decInstr, decPart, decGuest, decConf, decEvent, decVcpu, decStep, bytesS, boolS, eventsS, intsS, guestsS, vcpusS, rowS, castL, Option.bind_some, Option.map_some, Option.some.injEq, Nat.beq_refl, beq_self_eq_true, Bool.and_self, cond_true, cond_false, eq_self, beq_iff_eq, beq_eq_false_iff_ne, bne_iff_ne, bne_eq_false_iff_eq, ne_eq, decide_eq_true_eq, decide_eq_false_iff_not, ble_true, ble_false, inRange_iff, inRange_false, K.clear]
  rw [← hr]
  clear hr
  match r, hl with
  | [_, _, _, _, _, _, _, _, _, _, _, _, _, _, _, _], _ => rfl
  
theorem c_ref17_Bare : SpecOk EB 43 S_ref17_Bare := spec_sig ok_ref17_Bare (n := 60) fun ⟨host, ⟨⟩⟩ h hok => a_ref17_Bare host (ok_mach (okSL_head hok))
end

/-! ref23_Turn -/
def machAt (s : St) (t : Nat) : PMach := match s.T t with
  | .loc k _ _ _ => match s.M k with
    | some (.cells cs _) => match decMach cs with
      | some m => m
      | none => ⟨⟨[], 0, []⟩, [], 0, [], false⟩
    | _ => ⟨⟨[], 0, []⟩, [], 0, [], false⟩
  | _ => ⟨⟨[], 0, []⟩, [], 0, [], false⟩
def vcpuAt (s : St) (t : Nat) : PVcpu := match s.T t with
  | .loc k _ _ _ => match s.M k with
    | some (.cells cs _) => match decVcpu cs with
      | some m => m
      | none => ⟨⟨[], 0, []⟩, [], false, 0, []⟩
    | _ => ⟨⟨[], 0, []⟩, [], false, 0, []⟩
  | _ => ⟨⟨[], 0, []⟩, [], false, 0, []⟩
@[reducible] def L_Turn (host : PMach) (v : PVcpu) (p : PPart) (q : Int) : LoopSpec where
  σ := PMach × PVcpu × Nat
  slots := [4, 5, 6, 8, 9, 10]
  keys := [4, 5, 6, 8, 9]
  vals := fun x => [.loc 0 0 0 1, .loc 1 0 0 1, .loc 2 0 0 1, .loc 3 0 0 1, .loc 4 0 0 1, .v (.int .u64 (K.deadline host q))]
  blks := fun x => [.cells (machC x.1) 30, .cells (vcpuC x.2.1) 33, .cells (partC p) 35, .cells [.arr .u32 16 [0, 0, 0, 0, 0, 0, 0, 0, 0, 0, 0, 0, 0, 0, 0, 0], .v (.int .u32 0), .arr .u32 12 [0, 0, 0, 0, 0, 0, 0, 0, 0, 0, 0, 0], .v (.slice none 0 0), .v (.int .u64 0), .v (.slice none 0 0), .b false] 30, .cells [.arr .u32 16 [0, 0, 0, 0, 0, 0, 0, 0, 0, 0, 0, 0, 0, 0, 0, 0], .v (.int .u32 0), .arr .u32 12 [0, 0, 0, 0, 0, 0, 0, 0, 0, 0, 0, 0], .v (.slice none 0 0), .b false, .v (.int .i64 0), .v (.slice none 0 0)] 33]
  inv := fun x => K.RunInv host v p q x.1 x.2.1 x.2.2
  mu := fun x => 1000 - x.2.2
theorem wrap_id {n : Int} (h : okI .i64 n) : IntKind.i64.wrap n = n := by
  obtain ⟨a, b⟩ := okI_i64 h
  exact wrapI64 (by omega) (by omega)
theorem wrap_wrap (n : Int) : IntKind.i64.wrap (IntKind.i64.wrap n + 1) = IntKind.i64.wrap (n + 1) := by
  simp only [IntKind.wrap, IntKind.bits, IntKind.signed]
  simp
  split <;> split <;> omega
/-- the inner loop: a host, how many steps it has made, whether the trap has come and what it left -/
@[reducible] def L_Turn2 (p : PPart) (q end_ : Int) (D : PMach) (w : PVcpu) : LoopSpec where
  σ := PMach × PVcpu × Nat × Bool
  slots := [4, 5, 6, 8, 9, 10, 11]
  keys := [4, 5, 6, 8, 9]
  vals := fun x => [.loc 0 0 0 1, .loc 1 0 0 1, .loc 2 0 0 1, .loc 3 0 0 1, .loc 4 0 0 1, .v (.int .u64 end_), .v (.bool x.2.2.2)]
  blks := fun x => [.cells (machC x.1) 30, .cells (vcpuC x.2.1) 33, .cells (partC p) 35, .cells [.arr .u32 16 [0, 0, 0, 0, 0, 0, 0, 0, 0, 0, 0, 0, 0, 0, 0, 0], .v (.int .u32 0), .arr .u32 12 [0, 0, 0, 0, 0, 0, 0, 0, 0, 0, 0, 0], .v (.slice none 0 0), .v (.int .u64 0), .v (.slice none 0 0), .b false] 30, .cells [.arr .u32 16 [0, 0, 0, 0, 0, 0, 0, 0, 0, 0, 0, 0, 0, 0, 0, 0], .v (.int .u32 0), .arr .u32 12 [0, 0, 0, 0, 0, 0, 0, 0, 0, 0, 0, 0], .v (.slice none 0 0), .b false, .v (.int .i64 0), .v (.slice none 0 0)] 33]
  inv := fun x => okMach x.1 ∧ okVcpu x.2.1 ∧ x.2.2.1 < 1000 ∧ (x.2.2.2 = false → K.User D x.1 ∧ K.untl (1000 - x.2.2.1) x.1 (x.2.2.1 : Int) = K.untl 1000 D 0 ∧ x.2.1 = { w with done := IntKind.i64.wrap (w.done + (x.2.2.1 : Int)) }) ∧
    (x.2.2.2 = true → x.1 = (K.until D).1 ∧ x.2.1 = K.handle { K.save (K.until D).1 w with done := IntKind.i64.wrap (w.done + (K.until D).2.1) } (K.until D).2.2.1 (K.until D).2.2.2)
  mu := fun x => if x.2.2.2 then 0 else 1000 - x.2.2.1
  nils := [(11, .u8, 5)]
def S_ref23_Turn : Spec := sig [.mach, .vcpu, .part, .i .i64] [.mach, .vcpu] (fun (host, v, p, q, _) => K.slice host v p q) (pre := fun (host, v, p, q, _) => decide (host.halted = false ∧ host.mem.length ≤ 1073741824 ∧ host.out.length ≤ 1073741824 ∧ v.out.length ≤ 1073741824 ∧ v.log.length ≤ 1073741824 ∧ host.time ≤ 4611686018427387904 ∧ q ≤ 60 ∧ p.base + p.size ≤ host.mem.length))
noncomputable def E_ref23_Turn : Env := EB.adds [(16, S_ref23_End), (37, S_ref22_Due), (38, S_ref22_Settle), (40, S_ref22_Alarm), (39, S_ref18_Let), (19, S_ref13_Step), (42, S_ref17_Save), (41, S_ref21_Do), (43, S_ref17_Bare)]

theorem ok_ref23_Turn : EnvOk E_ref23_Turn := okEB.adds (l := _) ⟨c_ref23_End, c_ref22_Due, c_ref22_Settle, c_ref22_Alarm, c_ref18_Let, c_ref13_Step, c_ref17_Save, c_ref21_Do, c_ref17_Bare, trivial⟩

theorem t_ref23_Turn (host : PMach) (v : PVcpu) (p : PPart) (q : Int) : evFLs E_ref23_Turn (fun b => if b = 0 then some (fun _ => L_Turn host v p q) else if b = 2 then some (fun s => L_Turn2 p q (K.deadline host q) (machAt s 4) (vcpuAt s 5)) else none) 60 12 (encArgs [.mach, .vcpu, .part, .i .i64] (host, v, p, q, ())) = 
 Tree.letv (okO [(AT.i IntKind.u64)]) (K.deadline host q) fun x0 =>
 (Tree.loop 0 (L_Turn host v p q) [(SV.loc 0 0 0 1), (SV.loc 1 0 0 1), (SV.loc 2 0 0 1), (SV.loc 3 0 0 1), (SV.loc 4 0 0 1), (SV.v (Value.int IntKind.u64 x0))] [(Blk.cells [(SV.arr IntKind.u32 16 host.core.regs), (SV.v (Value.int IntKind.u32 host.core.pc)), (SV.arr IntKind.u32 12 host.core.csr), (SV.rd ETy.u8 host.mem), (SV.v (Value.int IntKind.u64 host.time)), (SV.rd ETy.u8 host.out), (SV.v (Value.bool host.halted))] 30), (Blk.cells [(SV.arr IntKind.u32 16 v.core.regs), (SV.v (Value.int IntKind.u32 v.core.pc)), (SV.arr IntKind.u32 12 v.core.csr), (SV.rd ETy.u8 v.out), (SV.v (Value.bool v.halted)), (SV.v (Value.int IntKind.i64 v.done)), (SV.rd ETy.event v.log)] 33), (Blk.cells [(SV.v (Value.int IntKind.u32 p.base)), (SV.v (Value.int IntKind.u32 p.size))] 35), (Blk.cells [(SV.arr IntKind.u32 16 [(0 : Int), (0 : Int), (0 : Int), (0 : Int), (0 : Int), (0 : Int), (0 : Int), (0 : Int), (0 : Int), (0 : Int), (0 : Int), (0 : Int), (0 : Int), (0 : Int), (0 : Int), (0 : Int)]), (SV.v (Value.int IntKind.u32 (0 : Int))), (SV.arr IntKind.u32 12 [(0 : Int), (0 : Int), (0 : Int), (0 : Int), (0 : Int), (0 : Int), (0 : Int), (0 : Int), (0 : Int), (0 : Int), (0 : Int), (0 : Int)]), (SV.v (Value.slice Option.none 0 0)), (SV.v (Value.int IntKind.u64 (0 : Int))), (SV.v (Value.slice Option.none 0 0)), (SV.b false)] 30), (Blk.cells [(SV.arr IntKind.u32 16 [(0 : Int), (0 : Int), (0 : Int), (0 : Int), (0 : Int), (0 : Int), (0 : Int), (0 : Int), (0 : Int), (0 : Int), (0 : Int), (0 : Int), (0 : Int), (0 : Int), (0 : Int), (0 : Int)]), (SV.v (Value.int IntKind.u32 (0 : Int))), (SV.arr IntKind.u32 12 [(0 : Int), (0 : Int), (0 : Int), (0 : Int), (0 : Int), (0 : Int), (0 : Int), (0 : Int), (0 : Int), (0 : Int), (0 : Int), (0 : Int)]), (SV.v (Value.slice Option.none 0 0)), (SV.b false), (SV.v (Value.int IntKind.i64 (0 : Int))), (SV.v (Value.slice Option.none 0 0))] 33)] fun (x1 : (Prod PMach (Prod PVcpu Nat))) =>
 (bif x1.snd.fst.halted then
 (Tree.letv (okO [AT.mach]) (K.clear x1.fst) fun x2 =>
 (Tree.leaf (SV.tup [(SV.agg [(SV.arr IntKind.u32 16 x2.core.regs), (SV.v (Value.int IntKind.u32 x2.core.pc)), (SV.arr IntKind.u32 12 (List.set x2.core.csr 0 (1 : Int))), (SV.rd ETy.u8 x2.mem), (SV.v (Value.int IntKind.u64 x2.time)), (SV.rd ETy.u8 x2.out), (SV.v (Value.bool x2.halted))]), (SV.agg [(SV.arr IntKind.u32 16 x1.snd.fst.core.regs), (SV.v (Value.int IntKind.u32 x1.snd.fst.core.pc)), (SV.arr IntKind.u32 12 x1.snd.fst.core.csr), (SV.rd ETy.u8 x1.snd.fst.out), (SV.v (Value.bool x1.snd.fst.halted)), (SV.v (Value.int IntKind.i64 x1.snd.fst.done)), (SV.rd ETy.event x1.snd.fst.log)])])))
 else
 (bif (decide (x1.fst.time < (K.deadline host q))) then
 (Tree.letv (okO [AT.b]) (K.pending x1.snd.fst x1.fst.time) fun x2 =>
 (bif x2 then
 (bif (decide ((List.length x1.snd.fst.log) ≤ 1099511627776)) then
 (Tree.letv (okO [AT.vcpu, AT.b]) (K.deliver x1.snd.fst x1.fst.time) fun x3 =>
 (bif x3.snd then
 ((Tree.next 0 [(SV.loc 0 0 0 1), (SV.loc 1 0 0 1), (SV.loc 2 0 0 1), (SV.loc 3 0 0 1), (SV.loc 4 0 0 1), (SV.v (Value.int IntKind.u64 (K.deadline host q)))] [(Blk.cells [(SV.arr IntKind.u32 16 x1.fst.core.regs), (SV.v (Value.int IntKind.u32 x1.fst.core.pc)), (SV.arr IntKind.u32 12 x1.fst.core.csr), (SV.rd ETy.u8 x1.fst.mem), (SV.v (Value.int IntKind.u64 x1.fst.time)), (SV.rd ETy.u8 x1.fst.out), (SV.v (Value.bool x1.fst.halted))] 30), (Blk.cells [(SV.arr IntKind.u32 16 x3.fst.core.regs), (SV.v (Value.int IntKind.u32 x3.fst.core.pc)), (SV.arr IntKind.u32 12 x3.fst.core.csr), (SV.rd ETy.u8 x3.fst.out), (SV.v (Value.bool x3.fst.halted)), (SV.v (Value.int IntKind.i64 x3.fst.done)), (SV.rd ETy.event x3.fst.log)] 33), (Blk.cells [(SV.v (Value.int IntKind.u32 p.base)), (SV.v (Value.int IntKind.u32 p.size))] 35), (Blk.cells [(SV.arr IntKind.u32 16 [(0 : Int), (0 : Int), (0 : Int), (0 : Int), (0 : Int), (0 : Int), (0 : Int), (0 : Int), (0 : Int), (0 : Int), (0 : Int), (0 : Int), (0 : Int), (0 : Int), (0 : Int), (0 : Int)]), (SV.v (Value.int IntKind.u32 (0 : Int))), (SV.arr IntKind.u32 12 [(0 : Int), (0 : Int), (0 : Int), (0 : Int), (0 : Int), (0 : Int), (0 : Int), (0 : Int), (0 : Int), (0 : Int), (0 : Int), (0 : Int)]), (SV.v (Value.slice Option.none 0 0)), (SV.v (Value.int IntKind.u64 (0 : Int))), (SV.v (Value.slice Option.none 0 0)), (SV.b false)] 30), (Blk.cells [(SV.arr IntKind.u32 16 [(0 : Int), (0 : Int), (0 : Int), (0 : Int), (0 : Int), (0 : Int), (0 : Int), (0 : Int), (0 : Int), (0 : Int), (0 : Int), (0 : Int), (0 : Int), (0 : Int), (0 : Int), (0 : Int)]), (SV.v (Value.int IntKind.u32 (0 : Int))), (SV.arr IntKind.u32 12 [(0 : Int), (0 : Int), (0 : Int), (0 : Int), (0 : Int), (0 : Int), (0 : Int), (0 : Int), (0 : Int), (0 : Int), (0 : Int), (0 : Int)]), (SV.v (Value.slice Option.none 0 0)), (SV.b false), (SV.v (Value.int IntKind.i64 (0 : Int))), (SV.v (Value.slice Option.none 0 0))] 33)]))
 else
 ((Tree.next 0 [(SV.loc 0 0 0 1), (SV.loc 1 0 0 1), (SV.loc 2 0 0 1), (SV.loc 3 0 0 1), (SV.loc 4 0 0 1), (SV.v (Value.int IntKind.u64 (K.deadline host q)))] [(Blk.cells [(SV.arr IntKind.u32 16 x1.fst.core.regs), (SV.v (Value.int IntKind.u32 x1.fst.core.pc)), (SV.arr IntKind.u32 12 x1.fst.core.csr), (SV.rd ETy.u8 x1.fst.mem), (SV.v (Value.int IntKind.u64 x1.fst.time)), (SV.rd ETy.u8 x1.fst.out), (SV.v (Value.bool x1.fst.halted))] 30), (Blk.cells [(SV.arr IntKind.u32 16 x3.fst.core.regs), (SV.v (Value.int IntKind.u32 x3.fst.core.pc)), (SV.arr IntKind.u32 12 x3.fst.core.csr), (SV.rd ETy.u8 x3.fst.out), (SV.v (Value.bool x3.fst.halted)), (SV.v (Value.int IntKind.i64 x3.fst.done)), (SV.rd ETy.event x3.fst.log)] 33), (Blk.cells [(SV.v (Value.int IntKind.u32 p.base)), (SV.v (Value.int IntKind.u32 p.size))] 35), (Blk.cells [(SV.arr IntKind.u32 16 [(0 : Int), (0 : Int), (0 : Int), (0 : Int), (0 : Int), (0 : Int), (0 : Int), (0 : Int), (0 : Int), (0 : Int), (0 : Int), (0 : Int), (0 : Int), (0 : Int), (0 : Int), (0 : Int)]), (SV.v (Value.int IntKind.u32 (0 : Int))), (SV.arr IntKind.u32 12 [(0 : Int), (0 : Int), (0 : Int), (0 : Int), (0 : Int), (0 : Int), (0 : Int), (0 : Int), (0 : Int), (0 : Int), (0 : Int), (0 : Int)]), (SV.v (Value.slice Option.none 0 0)), (SV.v (Value.int IntKind.u64 (0 : Int))), (SV.v (Value.slice Option.none 0 0)), (SV.b false)] 30), (Blk.cells [(SV.arr IntKind.u32 16 [(0 : Int), (0 : Int), (0 : Int), (0 : Int), (0 : Int), (0 : Int), (0 : Int), (0 : Int), (0 : Int), (0 : Int), (0 : Int), (0 : Int), (0 : Int), (0 : Int), (0 : Int), (0 : Int)]), (SV.v (Value.int IntKind.u32 (0 : Int))), (SV.arr IntKind.u32 12 [(0 : Int), (0 : Int), (0 : Int), (0 : Int), (0 : Int), (0 : Int), (0 : Int), (0 : Int), (0 : Int), (0 : Int), (0 : Int), (0 : Int)]), (SV.v (Value.slice Option.none 0 0)), (SV.b false), (SV.v (Value.int IntKind.i64 (0 : Int))), (SV.v (Value.slice Option.none 0 0))] 33)]))))
 else
 (Tree.fail))
 else
 (Tree.letv (okO [(AT.i IntKind.u64)]) (K.alarm x1.snd.fst (K.deadline host q)) fun x3 =>
 (bif (decide ((p.base + p.size) ≤ (2147483648 : Int))) then
 (Tree.letv (okO [AT.mach]) (K.dispatch x1.fst x1.snd.fst p x3) fun x4 =>
 (Tree.loop 2 (L_Turn2 p q (K.deadline host q) x4 x1.snd.fst) [(SV.loc 0 0 0 1), (SV.loc 1 0 0 1), (SV.loc 2 0 0 1), (SV.loc 3 0 0 1), (SV.loc 4 0 0 1), (SV.v (Value.int IntKind.u64 (K.deadline host q))), (SV.v (Value.bool false))] [(Blk.cells [(SV.arr IntKind.u32 16 x4.core.regs), (SV.v (Value.int IntKind.u32 x4.core.pc)), (SV.arr IntKind.u32 12 x4.core.csr), (SV.rd ETy.u8 x4.mem), (SV.v (Value.int IntKind.u64 x4.time)), (SV.rd ETy.u8 x4.out), (SV.v (Value.bool x4.halted))] 30), (Blk.cells [(SV.arr IntKind.u32 16 x1.snd.fst.core.regs), (SV.v (Value.int IntKind.u32 x1.snd.fst.core.pc)), (SV.arr IntKind.u32 12 x1.snd.fst.core.csr), (SV.rd ETy.u8 x1.snd.fst.out), (SV.v (Value.bool x1.snd.fst.halted)), (SV.v (Value.int IntKind.i64 x1.snd.fst.done)), (SV.rd ETy.event x1.snd.fst.log)] 33), (Blk.cells [(SV.v (Value.int IntKind.u32 p.base)), (SV.v (Value.int IntKind.u32 p.size))] 35), (Blk.cells [(SV.arr IntKind.u32 16 [(0 : Int), (0 : Int), (0 : Int), (0 : Int), (0 : Int), (0 : Int), (0 : Int), (0 : Int), (0 : Int), (0 : Int), (0 : Int), (0 : Int), (0 : Int), (0 : Int), (0 : Int), (0 : Int)]), (SV.v (Value.int IntKind.u32 (0 : Int))), (SV.arr IntKind.u32 12 [(0 : Int), (0 : Int), (0 : Int), (0 : Int), (0 : Int), (0 : Int), (0 : Int), (0 : Int), (0 : Int), (0 : Int), (0 : Int), (0 : Int)]), (SV.v (Value.slice Option.none 0 0)), (SV.v (Value.int IntKind.u64 (0 : Int))), (SV.v (Value.slice Option.none 0 0)), (SV.b false)] 30), (Blk.cells [(SV.arr IntKind.u32 16 [(0 : Int), (0 : Int), (0 : Int), (0 : Int), (0 : Int), (0 : Int), (0 : Int), (0 : Int), (0 : Int), (0 : Int), (0 : Int), (0 : Int), (0 : Int), (0 : Int), (0 : Int), (0 : Int)]), (SV.v (Value.int IntKind.u32 (0 : Int))), (SV.arr IntKind.u32 12 [(0 : Int), (0 : Int), (0 : Int), (0 : Int), (0 : Int), (0 : Int), (0 : Int), (0 : Int), (0 : Int), (0 : Int), (0 : Int), (0 : Int)]), (SV.v (Value.slice Option.none 0 0)), (SV.b false), (SV.v (Value.int IntKind.i64 (0 : Int))), (SV.v (Value.slice Option.none 0 0))] 33)] fun (x5 : (Prod PMach (Prod PVcpu (Prod Nat Bool)))) =>
 (bif x5.snd.snd.snd then
 ((Tree.next 0 [(SV.loc 0 0 0 1), (SV.loc 1 0 0 1), (SV.loc 2 0 0 1), (SV.loc 3 0 0 1), (SV.loc 4 0 0 1), (SV.v (Value.int IntKind.u64 (K.deadline host q)))] [(Blk.cells [(SV.arr IntKind.u32 16 x5.fst.core.regs), (SV.v (Value.int IntKind.u32 x5.fst.core.pc)), (SV.arr IntKind.u32 12 x5.fst.core.csr), (SV.rd ETy.u8 x5.fst.mem), (SV.v (Value.int IntKind.u64 x5.fst.time)), (SV.rd ETy.u8 x5.fst.out), (SV.v (Value.bool x5.fst.halted))] 30), (Blk.cells [(SV.arr IntKind.u32 16 x5.snd.fst.core.regs), (SV.v (Value.int IntKind.u32 x5.snd.fst.core.pc)), (SV.arr IntKind.u32 12 x5.snd.fst.core.csr), (SV.rd ETy.u8 x5.snd.fst.out), (SV.v (Value.bool x5.snd.fst.halted)), (SV.v (Value.int IntKind.i64 x5.snd.fst.done)), (SV.rd ETy.event x5.snd.fst.log)] 33), (Blk.cells [(SV.v (Value.int IntKind.u32 p.base)), (SV.v (Value.int IntKind.u32 p.size))] 35), (Blk.cells [(SV.arr IntKind.u32 16 [(0 : Int), (0 : Int), (0 : Int), (0 : Int), (0 : Int), (0 : Int), (0 : Int), (0 : Int), (0 : Int), (0 : Int), (0 : Int), (0 : Int), (0 : Int), (0 : Int), (0 : Int), (0 : Int)]), (SV.v (Value.int IntKind.u32 (0 : Int))), (SV.arr IntKind.u32 12 [(0 : Int), (0 : Int), (0 : Int), (0 : Int), (0 : Int), (0 : Int), (0 : Int), (0 : Int), (0 : Int), (0 : Int), (0 : Int), (0 : Int)]), (SV.v (Value.slice Option.none 0 0)), (SV.v (Value.int IntKind.u64 (0 : Int))), (SV.v (Value.slice Option.none 0 0)), (SV.b false)] 30), (Blk.cells [(SV.arr IntKind.u32 16 [(0 : Int), (0 : Int), (0 : Int), (0 : Int), (0 : Int), (0 : Int), (0 : Int), (0 : Int), (0 : Int), (0 : Int), (0 : Int), (0 : Int), (0 : Int), (0 : Int), (0 : Int), (0 : Int)]), (SV.v (Value.int IntKind.u32 (0 : Int))), (SV.arr IntKind.u32 12 [(0 : Int), (0 : Int), (0 : Int), (0 : Int), (0 : Int), (0 : Int), (0 : Int), (0 : Int), (0 : Int), (0 : Int), (0 : Int), (0 : Int)]), (SV.v (Value.slice Option.none 0 0)), (SV.b false), (SV.v (Value.int IntKind.i64 (0 : Int))), (SV.v (Value.slice Option.none 0 0))] 33)]))
 else
 (bif (decide (And ((List.length x5.fst.mem) ≤ 1099511627776) ((List.length x5.fst.out) ≤ 1099511627776))) then
 (Tree.letv (okO [AT.mach, AT.trap]) (K.step x5.fst) fun x6 =>
 (bif (BEq.beq x6.snd.cause (0 : Int)) then
 ((Tree.next 2 [(SV.loc 0 0 0 1), (SV.loc 1 0 0 1), (SV.loc 2 0 0 1), (SV.loc 3 0 0 1), (SV.loc 4 0 0 1), (SV.v (Value.int IntKind.u64 (K.deadline host q))), (SV.v (Value.bool x5.snd.snd.snd))] [(Blk.cells [(SV.arr IntKind.u32 16 x6.fst.core.regs), (SV.v (Value.int IntKind.u32 x6.fst.core.pc)), (SV.arr IntKind.u32 12 x6.fst.core.csr), (SV.rd ETy.u8 x6.fst.mem), (SV.v (Value.int IntKind.u64 x6.fst.time)), (SV.rd ETy.u8 x6.fst.out), (SV.v (Value.bool x6.fst.halted))] 30), (Blk.cells [(SV.arr IntKind.u32 16 x5.snd.fst.core.regs), (SV.v (Value.int IntKind.u32 x5.snd.fst.core.pc)), (SV.arr IntKind.u32 12 x5.snd.fst.core.csr), (SV.rd ETy.u8 x5.snd.fst.out), (SV.v (Value.bool x5.snd.fst.halted)), (SV.v (Value.int IntKind.i64 (IntKind.wrap IntKind.i64 (x5.snd.fst.done + (1 : Int))))), (SV.rd ETy.event x5.snd.fst.log)] 33), (Blk.cells [(SV.v (Value.int IntKind.u32 p.base)), (SV.v (Value.int IntKind.u32 p.size))] 35), (Blk.cells [(SV.arr IntKind.u32 16 [(0 : Int), (0 : Int), (0 : Int), (0 : Int), (0 : Int), (0 : Int), (0 : Int), (0 : Int), (0 : Int), (0 : Int), (0 : Int), (0 : Int), (0 : Int), (0 : Int), (0 : Int), (0 : Int)]), (SV.v (Value.int IntKind.u32 (0 : Int))), (SV.arr IntKind.u32 12 [(0 : Int), (0 : Int), (0 : Int), (0 : Int), (0 : Int), (0 : Int), (0 : Int), (0 : Int), (0 : Int), (0 : Int), (0 : Int), (0 : Int)]), (SV.v (Value.slice Option.none 0 0)), (SV.v (Value.int IntKind.u64 (0 : Int))), (SV.v (Value.slice Option.none 0 0)), (SV.b false)] 30), (Blk.cells [(SV.arr IntKind.u32 16 [(0 : Int), (0 : Int), (0 : Int), (0 : Int), (0 : Int), (0 : Int), (0 : Int), (0 : Int), (0 : Int), (0 : Int), (0 : Int), (0 : Int), (0 : Int), (0 : Int), (0 : Int), (0 : Int)]), (SV.v (Value.int IntKind.u32 (0 : Int))), (SV.arr IntKind.u32 12 [(0 : Int), (0 : Int), (0 : Int), (0 : Int), (0 : Int), (0 : Int), (0 : Int), (0 : Int), (0 : Int), (0 : Int), (0 : Int), (0 : Int)]), (SV.v (Value.slice Option.none 0 0)), (SV.b false), (SV.v (Value.int IntKind.i64 (0 : Int))), (SV.v (Value.slice Option.none 0 0))] 33)]))
 else
 (Tree.letv (okO [AT.vcpu]) (K.save x6.fst x5.snd.fst) fun x7 =>
 (bif (decide (And ((List.length x7.out) ≤ 1099511627776) ((List.length x7.log) ≤ 1099511627776))) then
 (Tree.letv (okO [AT.vcpu]) (K.handle x7 x6.snd x5.fst.time) fun x8 =>
 ((Tree.next 2 [(SV.loc 0 0 0 1), (SV.loc 1 0 0 1), (SV.loc 2 0 0 1), (SV.loc 3 0 0 1), (SV.loc 4 0 0 1), (SV.v (Value.int IntKind.u64 (K.deadline host q))), (SV.v (Value.bool true))] [(Blk.cells [(SV.arr IntKind.u32 16 x6.fst.core.regs), (SV.v (Value.int IntKind.u32 x6.fst.core.pc)), (SV.arr IntKind.u32 12 x6.fst.core.csr), (SV.rd ETy.u8 x6.fst.mem), (SV.v (Value.int IntKind.u64 x6.fst.time)), (SV.rd ETy.u8 x6.fst.out), (SV.v (Value.bool x6.fst.halted))] 30), (Blk.cells [(SV.arr IntKind.u32 16 x8.core.regs), (SV.v (Value.int IntKind.u32 x8.core.pc)), (SV.arr IntKind.u32 12 x8.core.csr), (SV.rd ETy.u8 x8.out), (SV.v (Value.bool x8.halted)), (SV.v (Value.int IntKind.i64 x8.done)), (SV.rd ETy.event x8.log)] 33), (Blk.cells [(SV.v (Value.int IntKind.u32 p.base)), (SV.v (Value.int IntKind.u32 p.size))] 35), (Blk.cells [(SV.arr IntKind.u32 16 [(0 : Int), (0 : Int), (0 : Int), (0 : Int), (0 : Int), (0 : Int), (0 : Int), (0 : Int), (0 : Int), (0 : Int), (0 : Int), (0 : Int), (0 : Int), (0 : Int), (0 : Int), (0 : Int)]), (SV.v (Value.int IntKind.u32 (0 : Int))), (SV.arr IntKind.u32 12 [(0 : Int), (0 : Int), (0 : Int), (0 : Int), (0 : Int), (0 : Int), (0 : Int), (0 : Int), (0 : Int), (0 : Int), (0 : Int), (0 : Int)]), (SV.v (Value.slice Option.none 0 0)), (SV.v (Value.int IntKind.u64 (0 : Int))), (SV.v (Value.slice Option.none 0 0)), (SV.b false)] 30), (Blk.cells [(SV.arr IntKind.u32 16 [(0 : Int), (0 : Int), (0 : Int), (0 : Int), (0 : Int), (0 : Int), (0 : Int), (0 : Int), (0 : Int), (0 : Int), (0 : Int), (0 : Int), (0 : Int), (0 : Int), (0 : Int), (0 : Int)]), (SV.v (Value.int IntKind.u32 (0 : Int))), (SV.arr IntKind.u32 12 [(0 : Int), (0 : Int), (0 : Int), (0 : Int), (0 : Int), (0 : Int), (0 : Int), (0 : Int), (0 : Int), (0 : Int), (0 : Int), (0 : Int)]), (SV.v (Value.slice Option.none 0 0)), (SV.b false), (SV.v (Value.int IntKind.i64 (0 : Int))), (SV.v (Value.slice Option.none 0 0))] 33)])))
 else
 (Tree.fail)))))
 else
 (Tree.fail)))))
 else
 (Tree.fail)))))
 else
 (Tree.letv (okO [AT.mach]) (K.clear x1.fst) fun x2 =>
 (Tree.leaf (SV.tup [(SV.agg [(SV.arr IntKind.u32 16 x2.core.regs), (SV.v (Value.int IntKind.u32 x2.core.pc)), (SV.arr IntKind.u32 12 (List.set x2.core.csr 0 (1 : Int))), (SV.rd ETy.u8 x2.mem), (SV.v (Value.int IntKind.u64 x2.time)), (SV.rd ETy.u8 x2.out), (SV.v (Value.bool x2.halted))]), (SV.agg [(SV.arr IntKind.u32 16 x1.snd.fst.core.regs), (SV.v (Value.int IntKind.u32 x1.snd.fst.core.pc)), (SV.arr IntKind.u32 12 x1.snd.fst.core.csr), (SV.rd ETy.u8 x1.snd.fst.out), (SV.v (Value.bool x1.snd.fst.halted)), (SV.v (Value.int IntKind.i64 x1.snd.fst.done)), (SV.rd ETy.event x1.snd.fst.log)])])))))) := by kernel_rfl
section
attribute [local irreducible] evF evFL evFLs
theorem a_ref23_Turn (host : PMach) (v : PVcpu) (p : PPart) (q : Int) (hpre : host.halted = false ∧ host.mem.length ≤ 1073741824 ∧ host.out.length ≤ 1073741824 ∧ v.out.length ≤ 1073741824 ∧ v.log.length ≤ 1073741824 ∧ host.time ≤ 4611686018427387904 ∧ q ≤ 60 ∧ p.base + p.size ≤ host.mem.length) (ok_host : okMach host) (ok_v : okVcpu v) (ok_p : okPart p) (ok_q : okI .i64 q) : (evFLs E_ref23_Turn (fun b => if b = 0 then some (fun _ => L_Turn host v p q) else if b = 2 then some (fun s => L_Turn2 p q (K.deadline host q) (machAt s 4) (vcpuAt s 5)) else none) 60 12 (encArgs [.mach, .vcpu, .part, .i .i64] (host, v, p, q, ()))).ends fun out_ => decO [.mach, .vcpu] out_ = some (K.slice host v p q) := by
  rw [t_ref23_Turn, Tree.ends_holds]
  obtain ⟨hp1, hp2, hp3, hp4, hp5, hp6, hp7, hp8⟩ := hpre
  obtain ⟨p0, p1⟩ := okI_u32 ok_p.base
  obtain ⟨q0, q1⟩ := okI_u32 ok_p.size
  obtain ⟨h0, h1⟩ := okI_u64 ok_host.time
  have hdl : K.deadline host q = host.time + max q 1 := by unfold K.deadline; omega
  have hde : K.deadline host q ≤ host.time + 60 := by omega
  rw [Tree.holds_letv]
  intro _
  rw [Tree.holds_loop]
  have start : K.RunInv host v p q host v 0 := ⟨ok_host, ok_v, rfl, hp1, rfl, rfl, by omega, by omega, Int.le_refl _, by split <;> omega⟩
  refine ⟨⟨((host, v, 0) : PMach × PVcpu × Nat), rfl, rfl, start, trivial⟩, fun (x : PMach × PVcpu × Nat) hx => ?_⟩
  obtain ⟨h, w, j⟩ := x
  have I : K.RunInv host v p q h w j := hx
  clear hx
  have at_ : ∀ (h' : PMach) (w' : PVcpu), j < 1000 → K.RunInv host v p q h' w' (j + 1) → (L_Turn host v p q).at (fun y => (L_Turn host v p q).mu y < (L_Turn host v p q).mu (h, w, j)) [.loc 0 0 0 1, .loc 1 0 0 1, .loc 2 0 0 1, .loc 3 0 0 1, .loc 4 0 0 1, .v (.int .u64 (K.deadline host q))]
      [.cells (machC h') 30, .cells (vcpuC w') 33, .cells (partC p) 35, .cells [.arr .u32 16 [0, 0, 0, 0, 0, 0, 0, 0, 0, 0, 0, 0, 0, 0, 0, 0], .v (.int .u32 0), .arr .u32 12 [0, 0, 0, 0, 0, 0, 0, 0, 0, 0, 0, 0], .v (.slice none 0 0), .v (.int .u64 0), .v (.slice none 0 0), .b false] 30, .cells [.arr .u32 16 [0, 0, 0, 0, 0, 0, 0, 0, 0, 0, 0, 0, 0, 0, 0, 0], .v (.int .u32 0), .arr .u32 12 [0, 0, 0, 0, 0, 0, 0, 0, 0, 0, 0, 0], .v (.slice none 0 0), .b false, .v (.int .i64 0), .v (.slice none 0 0)] 33] := fun h' w' hj I' => ⟨(h', w', j + 1), rfl, rfl, I', by show 1000 - (j + 1) < 1000 - j; omega⟩
  by_cases hx : w.halted = true ∨ h.time ≥ K.deadline host q
  · have hfin : K.turnF p (K.deadline host q) 1000 host v = (h, w) := by
      have e := I.eq
      rw [← e]
      generalize 1000 - j = f
      cases f with
      | zero => rfl
      | succ f => unfold K.turnF; rw [if_pos hx]
    have hs : K.slice host v p q = (⟨⟨List.replicate 16 0, 0, h.core.csr.set 0 1⟩, h.mem, h.time, h.out, h.halted⟩, w) := by unfold K.slice; rw [hfin]; rfl
    rcases hx with hx | hx
    · simp only [hx, cond_true, Tree.holds_loop, Tree.holds_fork, Tree.holds_next, if_true, Tree.holds_cond, Tree.holds_letv, Tree.holds_leaf, Tree.holds_fail, decO, decA, decTup, decMach, decCore, decTrap, decInstr, decPart, decGuest, decConf, decEvent, decVcpu, decStep, bytesS, boolS, eventsS, intsS, guestsS, vcpusS, rowS, castL, Option.bind_some, Option.map_some, Option.some.injEq, Nat.beq_refl, beq_self_eq_true, Bool.and_self, cond_true, cond_false, eq_self, beq_iff_eq, beq_eq_false_iff_ne, bne_iff_ne, bne_eq_false_iff_eq, ne_eq, decide_eq_true_eq, decide_eq_false_iff_not, ble_true, ble_false, inRange_iff, inRange_false, hs, K.clear]
      repeat' (first | refine drop_ok ?_ | intro _ | with_reducible apply And.intro)
      all_goals first | rfl | trivial | (cases w; simp only at hx; subst hx; rfl) | trace_state
    · have hd : decide (h.time < K.deadline host q) = false := decide_eq_false (by omega)
      simp only [hd, cond_false, Tree.holds_loop, Tree.holds_fork, Tree.holds_next, if_true, Tree.holds_cond, Tree.holds_letv, Tree.holds_leaf, Tree.holds_fail, decO, decA, decTup, decMach, decCore, decTrap, decInstr, decPart, decGuest, decConf, decEvent, decVcpu, decStep, bytesS, boolS, eventsS, intsS, guestsS, vcpusS, rowS, castL, Option.bind_some, Option.map_some, Option.some.injEq, Nat.beq_refl, beq_self_eq_true, Bool.and_self, cond_true, cond_false, eq_self, beq_iff_eq, beq_eq_false_iff_ne, bne_iff_ne, bne_eq_false_iff_eq, ne_eq, decide_eq_true_eq, decide_eq_false_iff_not, ble_true, ble_false, inRange_iff, inRange_false, hs, K.clear]
      repeat' (first | refine drop_ok ?_ | intro _ | with_reducible apply And.intro)
      all_goals first | rfl | trivial | trace_state
  · have hnh : w.halted = false := by cases hq : w.halted with
      | false => rfl
      | true => exact absurd (.inl hq) hx
    have hnt' : ¬ h.time ≥ K.deadline host q := fun q => hx (.inr q)
    have hnt : h.time < K.deadline host q := by omega
    have hm := I.meas
    have hti := I.time
    have hj : j < 1000 := by split at hm <;> omega
    have hj2 : j < 200 := by split at hm <;> omega
    have hvo := I.vout
    have hvl := I.vlog
    have hmm := I.mem
    have hoo := I.out
    have nx := fun o1 o2 => I.next hnh hnt p0 q0 (by omega) h0 hp6 hde o1 o2
    have hd2 : decide (h.time < K.deadline host q) = true := decide_eq_true hnt
    simp only [hnh, hd2, cond_false, cond_true, Tree.holds_loop, Tree.holds_fork, Tree.holds_next, if_true, Tree.holds_cond, Tree.holds_letv, Tree.holds_leaf, Tree.holds_fail, decO, decA, decTup, decMach, decCore, decTrap, decInstr, decPart, decGuest, decConf, decEvent, decVcpu, decStep, bytesS, boolS, eventsS, intsS, guestsS, vcpusS, rowS, castL, Option.bind_some, Option.map_some, Option.some.injEq, Nat.beq_refl, beq_self_eq_true, Bool.and_self, cond_true, cond_false, eq_self, beq_iff_eq, beq_eq_false_iff_ne, bne_iff_ne, bne_eq_false_iff_eq, ne_eq, decide_eq_true_eq, decide_eq_false_iff_not, ble_true, ble_false, inRange_iff, inRange_false]
    by_cases hp : K.pending w h.time = true
    · have e : K.turn1 h w p (K.deadline host q) = (h, K.inject w h.time) := by unfold K.turn1; rw [if_pos hp]
      rw [e] at nx
      have e2 : K.deliver w h.time = (K.inject w h.time, true) := by unfold K.deliver; rw [if_pos hp]
      rw [e2]
      refine fun _ => ⟨fun _ => ⟨fun _ => fun hok => ⟨fun _ => ?_, fun hq => Bool.noConfusion hq⟩, fun hq => ?_⟩, fun hq => absurd hp (by rw [hq]; simp)⟩
      · exact at_ h (K.inject w h.time) hj (nx I.ok1 (ok_vcpu (show okS (encA .vcpu (K.inject w h.time)) from hok _ (List.mem_cons_self))))
      · omega
    · obtain ⟨t5, _⟩ := I.ok2.core.csr.u32 (i := 5) (by omega)
      obtain ⟨t6, _⟩ := I.ok2.core.csr.u32 (i := 6) (by omega)
      obtain ⟨t9, _⟩ := I.ok2.core.csr.u32 (i := 9) (by omega)
      obtain ⟨t10, _⟩ := I.ok2.core.csr.u32 (i := 10) (by omega)
      have hcm : 0 ≤ K.cmp w.core.csr := by unfold K.cmp; omega
      obtain ⟨h', m, u, m0, ht, he, hz, e1, es⟩ := turn1_run (host := h) (v := w) (p := p) (end_ := K.deadline host q) I.ok1.core.csr.1 p0 q0 (by omega) t5 t6 hcm I.go (by omega) hnt (by omega) (by omega)
      have e : K.turn1 h w p (K.deadline host q) = ((K.until (K.dispatch h w p (K.alarm w (K.deadline host q)))).1, K.handle { K.save (K.until (K.dispatch h w p (K.alarm w (K.deadline host q)))).1 w with done := IntKind.i64.wrap (w.done + (K.until (K.dispatch h w p (K.alarm w (K.deadline host q)))).2.1) } (K.until (K.dispatch h w p (K.alarm w (K.deadline host q)))).2.2.1 (K.until (K.dispatch h w p (K.alarm w (K.deadline host q)))).2.2.2) := by unfold K.turn1; rw [if_neg hp]
      rw [e] at nx
      have du := dispatch_facts (host := h) (v := w) (p := p) (alarm := K.alarm w (K.deadline host q)) I.ok1.core.csr.1 p0 q0 (by omega) t5 t6 (by unfold K.alarm; split <;> omega) (by unfold K.alarm; split <;> omega)
      have dm : (K.dispatch h w p (K.alarm w (K.deadline host q))).mem = h.mem := rfl
      have do_ : (K.dispatch h w p (K.alarm w (K.deadline host q))).out = h.out := rfl
      refine fun _ => ⟨fun hq => absurd hq hp, fun _ => fun _ => ⟨fun _ => fun hok => ?_, fun hq => ?_⟩⟩
      rotate_left
      · omega
      have okD : okMach (K.dispatch h w p (K.alarm w (K.deadline host q))) := ok_mach (show okS (encA .mach (K.dispatch h w p (K.alarm w (K.deadline host q)))) from hok)
      have gD : (K.dispatch h w p (K.alarm w (K.deadline host q))).halted = false := I.go
      generalize K.dispatch h w p (K.alarm w (K.deadline host q)) = D at *
      have hwd : IntKind.i64.wrap (w.done + 0) = w.done := by rw [Int.add_zero]; exact wrap_id I.ok2.done
      have hes : (K.untl 1000 D 0).isSome = true := es
      have hun : K.until D = (K.untl 1000 D 0).getD (D, 0, ⟨0, 0⟩, 0) := rfl
      refine ⟨⟨((D, w, 0, false) : PMach × PVcpu × Nat × Bool), rfl, (by show _ = [Blk.cells (machC D) _, Blk.cells (vcpuC w) _, _, _, _]; unfold vcpuC svB; rw [hnh]; rfl), ⟨okD, I.ok2, by show (0 : Nat) < 1000; omega, fun _ => ⟨⟨du.2.2.2.2.1, du.1, gD, rfl, rfl⟩, rfl, ?_⟩, fun hq => Bool.noConfusion hq⟩, trivial⟩, fun (y : PMach × PVcpu × Nat × Bool) hy => ?_⟩
      · show w = { w with done := IntKind.i64.wrap (w.done + 0) }
        rw [hwd]
      obtain ⟨g, x, k, b⟩ := y
      obtain ⟨y1, y2, y3, y4, y5⟩ := hy
      have y1 : okMach g := y1
      have y2 : okVcpu x := y2
      have y3 : k < 1000 := y3
      cases b with
      | true =>
        obtain ⟨z1, z2⟩ := y5 rfl
        have z1 : g = (K.until D).1 := z1
        have z2 : x = K.handle { K.save (K.until D).1 w with done := IntKind.i64.wrap (w.done + (K.until D).2.1) } (K.until D).2.2.1 (K.until D).2.2.2 := z2
        rw [← z1] at nx
        rw [← z1] at z2
        rw [← z2] at nx
        refine ⟨fun _ => at_ g x hj (nx y1 y2), fun hq => Bool.noConfusion hq⟩
      | false =>
        obtain ⟨z1, z2, z3⟩ := y4 rfl
        have z1 : K.User D g := z1
        have z2 : K.untl (1000 - k) g (k : Int) = K.untl 1000 D 0 := z2
        have z3 : x = { w with done := IntKind.i64.wrap (w.done + (k : Int)) } := z3.trans (by rw [hnh])
        have gm := z1.mem
        have go := z1.out
        rw [show 1000 - k = (999 - k) + 1 by omega, untl_succ] at z2
        refine ⟨fun hq => Bool.noConfusion hq, fun _ => ⟨fun _ => fun hok6 => ?_, fun hq => ?_⟩⟩
        rotate_left
        · exfalso; apply hq; exact ⟨by show g.mem.length ≤ _; rw [gm, dm]; omega, by show g.out.length ≤ _; rw [go, do_]; omega⟩
        have ok6 : okMach (K.step g).1 := ok_mach (show okS (encA .mach (K.step g).1) from hok6 _ (List.mem_cons_self))
        refine ⟨fun hc => ?_, fun hc => ?_⟩
        · have hc : (K.step g).2.cause = 0 := hc
          rw [if_pos hc] at z2
          have hk : k + 1 < 1000 := by
            rcases Nat.lt_or_ge (k + 1) 1000 with r | r
            · exact r
            · rw [show 999 - k = 0 by omega] at z2
              rw [← z2] at hes; cases hes
          refine ⟨((K.step g).1, { x with done := IntKind.i64.wrap (x.done + 1) }, k + 1, false), rfl, rfl, ⟨ok6, ⟨y2.core, y2.out, wrap_ok _ _, y2.log⟩, hk, fun _ => ⟨z1.step hc, ?_, ?_⟩, fun hq => Bool.noConfusion hq⟩, ?_⟩
          · show K.untl (1000 - (k + 1)) (K.step g).1 ((k + 1 : Nat) : Int) = _
            rw [← z2, show 1000 - (k + 1) = 999 - k by omega]; rfl
          · show ({ x with done := IntKind.i64.wrap (x.done + 1) } : PVcpu) = { w with done := IntKind.i64.wrap (w.done + ((k + 1 : Nat) : Int)) }
            rw [z3]
            show ({ w with done := IntKind.i64.wrap (IntKind.i64.wrap (w.done + (k : Int)) + 1) } : PVcpu) = _
            rw [wrap_wrap, Int.add_assoc]; rfl
          · show (if false = true then 0 else 1000 - (k + 1)) < (if false = true then 0 else 1000 - k)
            simp only [Bool.false_eq_true, if_false]; omega
        · have hc : ¬ (K.step g).2.cause = 0 := hc
          rw [if_neg hc] at z2
          have hu : K.until D = ((K.step g).1, (k : Int), (K.step g).2, g.time) := by rw [hun, ← z2]; rfl
          refine fun _ => ⟨fun _ => fun hok8 => ?_, fun hq => ?_⟩
          · refine ⟨((K.step g).1, K.handle (K.save (K.step g).1 x) (K.step g).2 g.time, k, true), rfl, rfl, ⟨ok6, ok_vcpu (show okS (encA .vcpu (K.handle (K.save (K.step g).1 x) (K.step g).2 g.time)) from hok8), y3, fun hq => Bool.noConfusion hq, fun _ => ?_⟩, ?_⟩
            · rw [hu, z3]
              exact ⟨rfl, rfl⟩
            · show (if true = true then 0 else 1000 - k) < (if false = true then 0 else 1000 - k)
              simp only [Bool.false_eq_true, if_false, if_true]; omega
          · exfalso; apply hq
            have zo : x.out = w.out := by rw [z3]
            have zl : x.log = w.log := by rw [z3]
            exact ⟨by show x.out.length ≤ _; rw [zo]; omega, by show x.log.length ≤ _; rw [zl]; omega⟩
  
theorem c_ref23_Turn : SpecOk EB 12 S_ref23_Turn := spec_sigLs ok_ref23_Turn (n := 60) (fun (host, v, p, q, _) => fun b => if b = 0 then some (fun _ => L_Turn host v p q) else if b = 2 then some (fun s => L_Turn2 p q (K.deadline host q) (machAt s 4) (vcpuAt s 5)) else none) fun ⟨host, v, p, q, ⟨⟩⟩ h hok => a_ref23_Turn host v p q (of_decide_eq_true h) (ok_mach (okSL_head hok)) (ok_vcpu (okSL_head (okSL_tail hok))) (ok_part (okSL_head (okSL_tail (okSL_tail hok)))) (ok_int (okSL_head (okSL_tail (okSL_tail (okSL_tail hok)))))
end

/-! ref10_Same -/

def S_ref10_Same : Spec := sig [.mach, .mach] [.b] (fun (a, b, _) => decide (a = b))
noncomputable def E_ref10_Same : Env := EB.adds [(21, S_ref05_Same)]

theorem ok_ref10_Same : EnvOk E_ref10_Same := okEB.adds (l := _) ⟨c_ref05_Same, trivial⟩

theorem t_ref10_Same (a : PMach) (b : PMach) : evF E_ref10_Same 60 13 (encArgs [.mach, .mach] (a, b, ())) = 
 bif (Bool.and (decide (a.core.regs = b.core.regs)) (Bool.and (BEq.beq a.core.pc b.core.pc) (Bool.and (decide (a.core.csr = b.core.csr)) true))) then
 (Tree.letv (okO [AT.b]) (decide (a.mem = b.mem)) fun x0 =>
 (bif x0 then
 (bif (BEq.beq a.time b.time) then
 (Tree.letv (okO [AT.b]) (decide (a.out = b.out)) fun x1 =>
 (bif x1 then
 (bif a.halted then
 (bif b.halted then
 (Tree.leaf (SV.b true))
 else
 (Tree.leaf (SV.b false)))
 else
 (bif b.halted then
 (Tree.leaf (SV.b false))
 else
 (Tree.leaf (SV.b true))))
 else
 (Tree.leaf (SV.b false))))
 else
 (Tree.leaf (SV.b false)))
 else
 (Tree.leaf (SV.b false))))
 else
 (Tree.leaf (SV.b false)) := by kernel_rfl
section
attribute [local irreducible] evF evFL evFLs
theorem a_ref10_Same (a : PMach) (b : PMach) (ok_a : okMach a) (ok_b : okMach b) : (evF E_ref10_Same 60 13 (encArgs [.mach, .mach] (a, b, ()))).ends fun out_ => decO [.b] out_ = some (decide (a = b)) := by
  rw [t_ref10_Same, Tree.ends_holds]
  simp only [Tree.holds_loop, Tree.holds_fork, Tree.holds_next, if_true, Tree.holds_cond, Tree.holds_letv, Tree.holds_leaf, Tree.holds_fail, decO, decA, decTup, decMach, decCore, decTrap, decInstr, decPart, decGuest, decConf, decEvent, decVcpu, decStep, bytesS, boolS, eventsS, intsS, guestsS, vcpusS, rowS, castL, Option.bind_some, Option.map_some, Option.some.injEq, Nat.beq_refl, beq_self_eq_true, Bool.and_self, cond_true, cond_false, eq_self]
  have key : a = b ↔ (a.core.regs = b.core.regs ∧ a.core.pc = b.core.pc ∧ a.core.csr = b.core.csr ∧ a.mem = b.mem ∧ a.time = b.time ∧ a.out = b.out ∧ a.halted = b.halted) := by
    constructor
    · rintro rfl; simp
    · rintro ⟨h1, h2, h3, h4, h5, h6, h7⟩; exact mach_ext (core_ext h1 h2 h3) h4 h5 h6 h7
  simp only [key]
  repeat' (first | refine drop_ok ?_ | intro _ | with_reducible apply And.intro)
  all_goals simp_all
  
theorem c_ref10_Same : SpecOk EB 13 S_ref10_Same := spec_sig ok_ref10_Same (n := 60) fun ⟨a, b, ⟨⟩⟩ h hok => a_ref10_Same a b (ok_mach (okSL_head hok)) (ok_mach (okSL_head (okSL_tail hok)))
end

/-! law23_TimeSliceMatchesReference -/

def S_law23_TimeSliceMatchesReference : Spec := sig [.mach, .vcpu, .part, .i .i64] [.b] (fun (host, v, p, q, _) => true)
noncomputable def E_law23_TimeSliceMatchesReference : Env := EB_0_1_2.adds [(9, S_law23_awake), (10, S_ref23_Fits), (11, S_timeslice_Run), (12, S_ref23_Turn), (13, S_ref10_Same), (14, S_ref16_Same), (15, S_timeslice_Deadline), (16, S_ref23_End)]

theorem ok_law23_TimeSliceMatchesReference : EnvOk E_law23_TimeSliceMatchesReference := okEB_0_1_2.adds (l := _) ⟨c_law23_awake, (up_to_0_1_2 c_ref23_Fits), c_timeslice_Run, (up_to_0_1_2 c_ref23_Turn), (up_to_0_1_2 c_ref10_Same), (up_to_0_1_2 c_ref16_Same), (up_to_0_1_2 c_timeslice_Deadline), (up_to_0_1_2 c_ref23_End), trivial⟩

theorem t_law23_TimeSliceMatchesReference (host : PMach) (v : PVcpu) (p : PPart) (q : Int) : evF E_law23_TimeSliceMatchesReference 60 3 (encArgs [.mach, .vcpu, .part, .i .i64] (host, v, p, q, ())) = 
 Tree.letv (okO [AT.b]) true fun x0 =>
 (bif x0 then
 (Tree.letv (okO [AT.b]) (K.fits23 host v p q) fun x1 =>
 (bif x1 then
 (bif (decide (And (host.halted = false) (And ((List.length host.mem) ≤ 1073741824) (And ((List.length host.out) ≤ 1073741824) (And ((List.length v.out) ≤ 1073741824) (And ((List.length v.log) ≤ 1073741824) (And (host.time ≤ (4611686018427387904 : Int)) (And (q ≤ (60 : Int)) ((p.base + p.size) ≤ (Int.ofNat (List.length host.mem))))))))))) then
 (Tree.letv (okO [AT.mach, AT.vcpu]) (K.slice host v p q) fun x2 =>
 (bif (decide (And (host.halted = false) (And ((List.length host.mem) ≤ 1073741824) (And ((List.length host.out) ≤ 1073741824) (And ((List.length v.out) ≤ 1073741824) (And ((List.length v.log) ≤ 1073741824) (And (host.time ≤ (4611686018427387904 : Int)) (And (q ≤ (60 : Int)) ((p.base + p.size) ≤ (Int.ofNat (List.length host.mem))))))))))) then
 (Tree.letv (okO [AT.mach, AT.vcpu]) (K.slice host v p q) fun x3 =>
 (Tree.letv (okO [AT.b]) (decide (x2.fst = x3.fst)) fun x4 =>
 (bif x4 then
 (Tree.letv (okO [AT.b]) (decide (x2.snd = x3.snd)) fun x5 =>
 (bif x5 then
 (Tree.letv (okO [(AT.i IntKind.u64)]) (K.deadline host q) fun x6 =>
 (Tree.letv (okO [(AT.i IntKind.u64)]) (K.deadline host q) fun x7 =>
 (bif (BEq.beq x6 x7) then
 (Tree.leaf (SV.b true))
 else
 (Tree.leaf (SV.b false)))))
 else
 (Tree.leaf (SV.b false))))
 else
 (Tree.leaf (SV.b false)))))
 else
 (Tree.fail)))
 else
 (Tree.fail))
 else
 (Tree.letv (okO [AT.b]) true fun x2 =>
 (bif x2 then
 (Tree.leaf (SV.b true))
 else
 (Tree.leaf (SV.b false))))))
 else
 (Tree.letv (okO [AT.b]) true fun x1 =>
 (bif x1 then
 (Tree.leaf (SV.b true))
 else
 (Tree.leaf (SV.b false))))) := by kernel_rfl
section
attribute [local irreducible] evF evFL evFLs
theorem a_law23_TimeSliceMatchesReference (host : PMach) (v : PVcpu) (p : PPart) (q : Int) (ok_host : okMach host) (ok_v : okVcpu v) (ok_p : okPart p) (ok_q : okI .i64 q) : (evF E_law23_TimeSliceMatchesReference 60 3 (encArgs [.mach, .vcpu, .part, .i .i64] (host, v, p, q, ()))).ends fun out_ => decO [.b] out_ = some (true) := by
  rw [t_law23_TimeSliceMatchesReference, Tree.ends_holds]
  have hf := fits23_at (host := host) (v := v) (p := p) (q := q)
  simp only [Tree.holds_loop, Tree.holds_fork, Tree.holds_next, if_true, Tree.holds_cond, Tree.holds_letv, Tree.holds_leaf, Tree.holds_fail, decO, decA, decTup, decMach, decCore, decTrap, decInstr, decPart, decGuest, decConf, decEvent, decVcpu, decStep, bytesS, boolS, eventsS, intsS, guestsS, vcpusS, rowS, castL, Option.bind_some, Option.map_some, Option.some.injEq, Nat.beq_refl, beq_self_eq_true, Bool.and_self, cond_true, cond_false, eq_self, beq_iff_eq, beq_eq_false_iff_ne, bne_iff_ne, bne_eq_false_iff_eq, ne_eq, decide_eq_true_eq, decide_eq_false_iff_not, ble_true, ble_false, inRange_iff, inRange_false]
  repeat' (first | refine drop_ok ?_ | intro _ | with_reducible apply And.intro)
  all_goals first
    | trivial
    | (obtain ⟨a1, a2, a3, a4, a5, a6, a7, a8, a9⟩ := hf (by assumption)
       first
         | (rename_i hq; exfalso; apply hq; exact ⟨a1, by omega, by omega, by omega, by omega, by omega, by omega, by omega⟩)
         | (simp_all; done))
    | trace_state
  
theorem c_law23_TimeSliceMatchesReference : SpecOk EB_0_1_2 3 S_law23_TimeSliceMatchesReference := spec_sig ok_law23_TimeSliceMatchesReference (n := 60) fun ⟨host, v, p, q, ⟨⟩⟩ h hok => a_law23_TimeSliceMatchesReference host v p q (ok_mach (okSL_head hok)) (ok_vcpu (okSL_head (okSL_tail hok))) (ok_part (okSL_head (okSL_tail (okSL_tail hok)))) (ok_int (okSL_head (okSL_tail (okSL_tail (okSL_tail hok)))))
end


end Go.Proofs.YtmbmahgaejcjiaaGreatDoor
