/- Contracts of functions, by evaluation (nothing is claimed here). -/
import Derived.Test.YtmbmahgaejcjiaaGreatDoorSh29
import Derived.KernelRfl
import Derived.Test.YtmbmahgaejcjiaaGreatDoorProg
import Derived.Test.YtmbmahgaejcjiaaGreatDoorTimeSliceMatchesBareGuestB3
set_option linter.unusedVariables false
set_option linter.unusedSimpArgs false
set_option maxRecDepth 100000
set_option maxHeartbeats 1000000
namespace Go.Proofs.YtmbmahgaejcjiaaGreatDoor
open Go
/-! timeslice_Run -/
@[reducible] def L_Run (host : PMach) (v : PVcpu) (p : PPart) (q : Int) : LoopSpec where
  σ := PMach × PVcpu × Nat
  slots := [4, 5, 6, 8, 9, 10]
  keys := [4, 5, 6, 8, 9]
  vals := fun x => [.loc 0 0 0 1, .loc 1 0 0 1, .loc 2 0 0 1, .loc 3 0 0 1, .loc 4 0 0 1, .v (.int .u64 (K.deadline host q))]
  blks := fun x => [.cells (machC x.1) 30, .cells (vcpuC x.2.1) 33, .cells (partC p) 35, .cells [.arr .u32 16 [0, 0, 0, 0, 0, 0, 0, 0, 0, 0, 0, 0, 0, 0, 0, 0], .v (.int .u32 0), .arr .u32 12 [0, 0, 0, 0, 0, 0, 0, 0, 0, 0, 0, 0], .v (.slice none 0 0), .v (.int .u64 0), .v (.slice none 0 0), .b false] 30, .cells [.arr .u32 16 [0, 0, 0, 0, 0, 0, 0, 0, 0, 0, 0, 0, 0, 0, 0, 0], .v (.int .u32 0), .arr .u32 12 [0, 0, 0, 0, 0, 0, 0, 0, 0, 0, 0, 0], .v (.slice none 0 0), .b false, .v (.int .i64 0), .v (.slice none 0 0)] 33]
  inv := fun x => K.RunInv host v p q x.1 x.2.1 x.2.2
  mu := fun x => 1000 - x.2.2
def S_timeslice_Run : Spec := sig [.mach, .vcpu, .part, .i .i64] [.mach, .vcpu] (fun (host, v, p, q, _) => K.slice host v p q) (pre := fun (host, v, p, q, _) => decide (host.halted = false ∧ host.mem.length ≤ 1073741824 ∧ host.out.length ≤ 1073741824 ∧ v.out.length ≤ 1073741824 ∧ v.log.length ≤ 1073741824 ∧ host.time ≤ 4611686018427387904 ∧ q ≤ 60 ∧ p.base + p.size ≤ host.mem.length))
noncomputable def E_timeslice_Run : Env := EB_0_1_2.adds [(15, S_timeslice_Deadline), (30, S_vtimer_DeliverPending), (33, S_vtimer_Alarm), (32, S_shadow_Dispatch), (31, S_timeslice_until), (34, S_save_Save), (35, S_handler_Handle), (36, S_save_ClearRegisters)]

theorem ok_timeslice_Run : EnvOk E_timeslice_Run := okEB_0_1_2.adds (l := _) ⟨(up_to_0_1_2 c_timeslice_Deadline), (up_to_0_1_2 c_vtimer_DeliverPending), (up_to_0_1_2 c_vtimer_Alarm), (up_to_0_1_2 c_shadow_Dispatch), c_timeslice_until, (up_to_0_1_2 c_save_Save), (up_0_1_to_0_1_2 c_handler_Handle), (up_to_0_1_2 c_save_ClearRegisters), trivial⟩
theorem t_timeslice_Run (host : PMach) (v : PVcpu) (p : PPart) (q : Int) : evFL E_timeslice_Run (fun _ => some (L_Run host v p q)) 60 11 (encArgs [.mach, .vcpu, .part, .i .i64] (host, v, p, q, ())) = Tree.letv (okO [(AT.i IntKind.u64)]) (K.deadline host q) fun x0 => (Tree.loop 0 (L_Run host v p q) [(SV.loc 0 0 0 1), (SV.loc 1 0 0 1), (SV.loc 2 0 0 1), (SV.loc 3 0 0 1), (SV.loc 4 0 0 1), (SV.v (Value.int IntKind.u64 x0))] [(Blk.cells [(SV.arr IntKind.u32 16 host.core.regs), (SV.v (Value.int IntKind.u32 host.core.pc)), (SV.arr IntKind.u32 12 host.core.csr), (SV.rd ETy.u8 host.mem), (SV.v (Value.int IntKind.u64 host.time)), (SV.rd ETy.u8 host.out), (SV.v (Value.bool host.halted))] 30), (Blk.cells [(SV.arr IntKind.u32 16 v.core.regs), (SV.v (Value.int IntKind.u32 v.core.pc)), (SV.arr IntKind.u32 12 v.core.csr), (SV.rd ETy.u8 v.out), (SV.v (Value.bool v.halted)), (SV.v (Value.int IntKind.i64 v.done)), (SV.rd ETy.event v.log)] 33), (Blk.cells [(SV.v (Value.int IntKind.u32 p.base)), (SV.v (Value.int IntKind.u32 p.size))] 35), (Blk.cells [(SV.arr IntKind.u32 16 [(0 : Int), (0 : Int), (0 : Int), (0 : Int), (0 : Int), (0 : Int), (0 : Int), (0 : Int), (0 : Int), (0 : Int), (0 : Int), (0 : Int), (0 : Int), (0 : Int), (0 : Int), (0 : Int)]), (SV.v (Value.int IntKind.u32 (0 : Int))), (SV.arr IntKind.u32 12 [(0 : Int), (0 : Int), (0 : Int), (0 : Int), (0 : Int), (0 : Int), (0 : Int), (0 : Int), (0 : Int), (0 : Int), (0 : Int), (0 : Int)]), (SV.v (Value.slice Option.none 0 0)), (SV.v
 (Value.int IntKind.u64 (0 : Int))), (SV.v (Value.slice Option.none 0 0)), (SV.b false)] 30), (Blk.cells [(SV.arr IntKind.u32 16 [(0 : Int), (0 : Int), (0 : Int), (0 : Int), (0 : Int), (0 : Int), (0 : Int), (0 : Int), (0 : Int), (0 : Int), (0 : Int), (0 : Int), (0 : Int), (0 : Int), (0 : Int), (0 : Int)]), (SV.v (Value.int IntKind.u32 (0 : Int))), (SV.arr IntKind.u32 12 [(0 : Int), (0 : Int), (0 : Int), (0 : Int), (0 : Int), (0 : Int), (0 : Int), (0 : Int), (0 : Int), (0 : Int), (0 : Int), (0 : Int)]), (SV.v (Value.slice Option.none 0 0)), (SV.b false), (SV.v (Value.int IntKind.i64 (0 : Int))), (SV.v (Value.slice Option.none 0 0))] 33)] fun (x1 : (Prod PMach (Prod PVcpu Nat))) => (bif x1.snd.fst.halted then (Tree.letv (okO [AT.mach]) (K.clear x1.fst) fun x2 => (Tree.leaf (SV.tup [(SV.agg [(SV.arr IntKind.u32 16 x2.core.regs), (SV.v (Value.int IntKind.u32 x2.core.pc)), (SV.arr IntKind.u32 12 (List.set x2.core.csr 0 (1 : Int))), (SV.rd ETy.u8 x2.mem), (SV.v (Value.int IntKind.u64 x2.time)), (SV.rd ETy.u8 x2.out), (SV.v (Value.bool x2.halted))]), (SV.agg [(SV.arr IntKind.u32 16 x1.snd.fst.core.regs), (SV.v (Value.int IntKind.u32 x1.snd.fst.core.pc)), (SV.arr IntKind.u32 12 x1.snd.fst.core.csr), (SV.rd ETy.u8 x1.snd.fst.out), (SV.v (Value.bool x1.snd.fst.halted)), (SV.v (Value.int IntKind.i64 x1.snd.fst.done)), (SV.rd ETy.event x1.snd.fst.log)])]))) else (bif (decide (x1.fst.time ≥ (K.deadline host q))) then (Tree.letv (okO [AT.mach]) (K.clear x1.fst) fun x2 => (Tree.leaf (SV.tup
 [(SV.agg [(SV.arr IntKind.u32 16 x2.core.regs), (SV.v (Value.int IntKind.u32 x2.core.pc)), (SV.arr IntKind.u32 12 (List.set x2.core.csr 0 (1 : Int))), (SV.rd ETy.u8 x2.mem), (SV.v (Value.int IntKind.u64 x2.time)), (SV.rd ETy.u8 x2.out), (SV.v (Value.bool x2.halted))]), (SV.agg [(SV.arr IntKind.u32 16 x1.snd.fst.core.regs), (SV.v (Value.int IntKind.u32 x1.snd.fst.core.pc)), (SV.arr IntKind.u32 12 x1.snd.fst.core.csr), (SV.rd ETy.u8 x1.snd.fst.out), (SV.v (Value.bool x1.snd.fst.halted)), (SV.v (Value.int IntKind.i64 x1.snd.fst.done)), (SV.rd ETy.event x1.snd.fst.log)])]))) else (bif (decide ((List.length x1.snd.fst.log) ≤ 1099511627776)) then (Tree.letv (okO [AT.vcpu, AT.b]) (K.deliver x1.snd.fst x1.fst.time) fun x2 => (bif x2.snd then ((Tree.next 0 [(SV.loc 0 0 0 1), (SV.loc 1 0 0 1), (SV.loc 2 0 0 1), (SV.loc 3 0 0 1), (SV.loc 4 0 0 1), (SV.v (Value.int IntKind.u64 (K.deadline host q)))] [(Blk.cells [(SV.arr IntKind.u32 16 x1.fst.core.regs), (SV.v (Value.int IntKind.u32 x1.fst.core.pc)), (SV.arr IntKind.u32 12 x1.fst.core.csr), (SV.rd ETy.u8 x1.fst.mem), (SV.v (Value.int IntKind.u64 x1.fst.time)), (SV.rd ETy.u8 x1.fst.out), (SV.v (Value.bool x1.fst.halted))] 30), (Blk.cells [(SV.arr IntKind.u32 16 x2.fst.core.regs), (SV.v (Value.int IntKind.u32 x2.fst.core.pc)), (SV.arr IntKind.u32 12 x2.fst.core.csr), (SV.rd ETy.u8 x2.fst.out), (SV.v (Value.bool x2.fst.halted)), (SV.v (Value.int IntKind.i64 x2.fst.done)), (SV.rd ETy.event x2.fst.log)] 33), (Blk.cells [(SV.v (Value.int
 IntKind.u32 p.base)), (SV.v (Value.int IntKind.u32 p.size))] 35), (Blk.cells [(SV.arr IntKind.u32 16 [(0 : Int), (0 : Int), (0 : Int), (0 : Int), (0 : Int), (0 : Int), (0 : Int), (0 : Int), (0 : Int), (0 : Int), (0 : Int), (0 : Int), (0 : Int), (0 : Int), (0 : Int), (0 : Int)]), (SV.v (Value.int IntKind.u32 (0 : Int))), (SV.arr IntKind.u32 12 [(0 : Int), (0 : Int), (0 : Int), (0 : Int), (0 : Int), (0 : Int), (0 : Int), (0 : Int), (0 : Int), (0 : Int), (0 : Int), (0 : Int)]), (SV.v (Value.slice Option.none 0 0)), (SV.v (Value.int IntKind.u64 (0 : Int))), (SV.v (Value.slice Option.none 0 0)), (SV.b false)] 30), (Blk.cells [(SV.arr IntKind.u32 16 [(0 : Int), (0 : Int), (0 : Int), (0 : Int), (0 : Int), (0 : Int), (0 : Int), (0 : Int), (0 : Int), (0 : Int), (0 : Int), (0 : Int), (0 : Int), (0 : Int), (0 : Int), (0 : Int)]), (SV.v (Value.int IntKind.u32 (0 : Int))), (SV.arr IntKind.u32 12 [(0 : Int), (0 : Int), (0 : Int), (0 : Int), (0 : Int), (0 : Int), (0 : Int), (0 : Int), (0 : Int), (0 : Int), (0 : Int), (0 : Int)]), (SV.v (Value.slice Option.none 0 0)), (SV.b false), (SV.v (Value.int IntKind.i64 (0 : Int))), (SV.v (Value.slice Option.none 0 0))] 33)])) else (Tree.letv (okO [(AT.i IntKind.u64)]) (K.alarm x1.snd.fst (K.deadline host q)) fun x3 => (Tree.letv (okO [AT.mach]) (K.dispatch x1.fst x1.snd.fst p x3) fun x4 => (bif (decide (And ((K.stops x4) = true) (And ((K.super x4.core) = false) (And (x4.halted = false) (And ((List.length x4.mem) ≤ 1099511627776) ((List.length x4.out)
 ≤ 1099511627776)))))) then (Tree.letv (okO [AT.mach, (AT.i IntKind.i64), AT.trap, (AT.i IntKind.u64)]) (K.until x4) fun x5 => (Tree.letv (okO [AT.vcpu]) (K.save x5.fst x1.snd.fst) fun x6 => (bif (decide (And ((List.length x6.out) ≤ 1099511627776) ((List.length x6.log) ≤ 1099511627776))) then (Tree.letv (okO [AT.vcpu]) (K.handle (PVcpu.mk x6.core x6.out x6.halted (IntKind.wrap IntKind.i64 (x6.done + x5.snd.fst)) x6.log) x5.snd.snd.fst x5.snd.snd.snd) fun x7 => ((Tree.next 0 [(SV.loc 0 0 0 1), (SV.loc 1 0 0 1), (SV.loc 2 0 0 1), (SV.loc 3 0 0 1), (SV.loc 4 0 0 1), (SV.v (Value.int IntKind.u64 (K.deadline host q)))] [(Blk.cells [(SV.arr IntKind.u32 16 x5.fst.core.regs), (SV.v (Value.int IntKind.u32 x5.fst.core.pc)), (SV.arr IntKind.u32 12 x5.fst.core.csr), (SV.rd ETy.u8 x5.fst.mem), (SV.v (Value.int IntKind.u64 x5.fst.time)), (SV.rd ETy.u8 x5.fst.out), (SV.v (Value.bool x5.fst.halted))] 30), (Blk.cells [(SV.arr IntKind.u32 16 x7.core.regs), (SV.v (Value.int IntKind.u32 x7.core.pc)), (SV.arr IntKind.u32 12 x7.core.csr), (SV.rd ETy.u8 x7.out), (SV.v (Value.bool x7.halted)), (SV.v (Value.int IntKind.i64 x7.done)), (SV.rd ETy.event x7.log)] 33), (Blk.cells [(SV.v (Value.int IntKind.u32 p.base)), (SV.v (Value.int IntKind.u32 p.size))] 35), (Blk.cells [(SV.arr IntKind.u32 16 [(0 : Int), (0 : Int), (0 : Int), (0 : Int), (0 : Int), (0 : Int), (0 : Int), (0 : Int), (0 : Int), (0 : Int), (0 : Int), (0 : Int), (0 : Int), (0 : Int), (0 : Int), (0 : Int)]), (SV.v (Value.int IntKind.u32 (0 :
 Int))), (SV.arr IntKind.u32 12 [(0 : Int), (0 : Int), (0 : Int), (0 : Int), (0 : Int), (0 : Int), (0 : Int), (0 : Int), (0 : Int), (0 : Int), (0 : Int), (0 : Int)]), (SV.v (Value.slice Option.none 0 0)), (SV.v (Value.int IntKind.u64 (0 : Int))), (SV.v (Value.slice Option.none 0 0)), (SV.b false)] 30), (Blk.cells [(SV.arr IntKind.u32 16 [(0 : Int), (0 : Int), (0 : Int), (0 : Int), (0 : Int), (0 : Int), (0 : Int), (0 : Int), (0 : Int), (0 : Int), (0 : Int), (0 : Int), (0 : Int), (0 : Int), (0 : Int), (0 : Int)]), (SV.v (Value.int IntKind.u32 (0 : Int))), (SV.arr IntKind.u32 12 [(0 : Int), (0 : Int), (0 : Int), (0 : Int), (0 : Int), (0 : Int), (0 : Int), (0 : Int), (0 : Int), (0 : Int), (0 : Int), (0 : Int)]), (SV.v (Value.slice Option.none 0 0)), (SV.b false), (SV.v (Value.int IntKind.i64 (0 : Int))), (SV.v (Value.slice Option.none 0 0))] 33)]))) else (Tree.fail)))) else (Tree.fail)))))) else (Tree.fail))))) := by kernel_rfl
section
attribute [local irreducible] evF evFL evFLs
theorem a_timeslice_Run (host : PMach) (v : PVcpu) (p : PPart) (q : Int) (hpre : host.halted = false ∧ host.mem.length ≤ 1073741824 ∧ host.out.length ≤ 1073741824 ∧ v.out.length ≤ 1073741824 ∧ v.log.length ≤ 1073741824 ∧ host.time ≤ 4611686018427387904 ∧ q ≤ 60 ∧ p.base + p.size ≤ host.mem.length) (ok_host : okMach host) (ok_v : okVcpu v) (ok_p : okPart p) (ok_q : okI .i64 q) : (evFL E_timeslice_Run (fun _ => some (L_Run host v p q)) 60 11 (encArgs [.mach, .vcpu, .part, .i .i64] (host, v, p, q, ()))).ends fun out_ => decO [.mach, .vcpu] out_ = some (K.slice host v p q) := by
  rw [t_timeslice_Run, Tree.ends_holds]
  obtain ⟨hp1, hp2, hp3, hp4, hp5, hp6, hp7, hp8⟩ := hpre
  obtain ⟨p0, p1⟩ := okI_u32 ok_p.base
  obtain ⟨q0, q1⟩ := okI_u32 ok_p.size
  obtain ⟨h0, h1⟩ := okI_u64 ok_host.time
  have hdl : K.deadline host q = host.time + max q 1 := by unfold K.deadline; omega
  have hde : K.deadline host q ≤ host.time + 60 := by omega
  rw [Tree.holds_letv]
  intro _
  rw [Tree.holds_loop]
  have start : K.RunInv host v p q host v 0 := ⟨ok_host, ok_v, rfl, hp1, rfl, rfl, by omega, by omega, Int.le_refl _, by split <;> omega⟩
  refine ⟨⟨((host, v, 0) : PMach × PVcpu × Nat), rfl, rfl, start, trivial⟩, fun (x : PMach × PVcpu × Nat) hx => ?_⟩
  obtain ⟨h, w, j⟩ := x
  have I : K.RunInv host v p q h w j := hx
  clear hx
  have at_ : ∀ (h' : PMach) (w' : PVcpu), j < 1000 → K.RunInv host v p q h' w' (j + 1) → (L_Run host v p q).at (fun y => (L_Run host v p q).mu y < (L_Run host v p q).mu (h, w, j)) [.loc 0 0 0 1, .loc 1 0 0 1, .loc 2 0 0 1, .loc 3 0 0 1, .loc 4 0 0 1, .v (.int .u64 (K.deadline host q))]
      [.cells (machC h') 30, .cells (vcpuC w') 33, .cells (partC p) 35, .cells [.arr .u32 16 [0, 0, 0, 0, 0, 0, 0, 0, 0, 0, 0, 0, 0, 0, 0, 0], .v (.int .u32 0), .arr .u32 12 [0, 0, 0, 0, 0, 0, 0, 0, 0, 0, 0, 0], .v (.slice none 0 0), .v (.int .u64 0), .v (.slice none 0 0), .b false] 30, .cells [.arr .u32 16 [0, 0, 0, 0, 0, 0, 0, 0, 0, 0, 0, 0, 0, 0, 0, 0], .v (.int .u32 0), .arr .u32 12 [0, 0, 0, 0, 0, 0, 0, 0, 0, 0, 0, 0], .v (.slice none 0 0), .b false, .v (.int .i64 0), .v (.slice none 0 0)] 33] := fun h' w' hj I' => ⟨(h', w', j + 1), rfl, rfl, I', by show 1000 - (j + 1) < 1000 - j; omega⟩
  by_cases hx : w.halted = true ∨ h.time ≥ K.deadline host q
  · have hfin : K.turnF p (K.deadline host q) 1000 host v = (h, w) := by
      have e := I.eq
      rw [← e]
      generalize 1000 - j = f
      cases f with
      | zero => rfl
      | succ f => unfold K.turnF; rw [if_pos hx]
    have hs : K.slice host v p q = (⟨⟨List.replicate 16 0, 0, h.core.csr.set 0 1⟩, h.mem, h.time, h.out, h.halted⟩, w) := by unfold K.slice; rw [hfin]; rfl
    rcases hx with hx | hx
    · simp only [hx, cond_true, Tree.holds_loop, Tree.holds_fork, Tree.holds_next, if_true, Tree.holds_cond, Tree.holds_letv, Tree.holds_leaf, Tree.holds_fail, decO, decA, decTup, decMach, decCore, decTrap, decInstr, decPart, decGuest, decConf, decEvent, decVcpu, decStep, bytesS, boolS, eventsS, intsS, guestsS, vcpusS, rowS, castL, Option.bind_some, Option.map_some, Option.some.injEq, Nat.beq_refl, beq_self_eq_true, Bool.and_self, cond_true, cond_false, eq_self, beq_iff_eq, beq_eq_false_iff_ne, bne_iff_ne, bne_eq_false_iff_eq, ne_eq, decide_eq_true_eq, decide_eq_false_iff_not, ble_true, ble_false, inRange_iff, inRange_false, hs, K.clear]
      repeat' (first | refine drop_ok ?_ | intro _ | with_reducible apply And.intro)
      all_goals first | rfl | trivial | (cases w; simp only at hx; subst hx; rfl) | trace_state
    · have hd : decide (h.time ≥ K.deadline host q) = true := decide_eq_true hx
      simp only [hd, cond_true, Tree.holds_loop, Tree.holds_fork, Tree.holds_next, if_true, Tree.holds_cond, Tree.holds_letv, Tree.holds_leaf, Tree.holds_fail, decO, decA, decTup, decMach, decCore, decTrap, decInstr, decPart, decGuest, decConf, decEvent, decVcpu, decStep, bytesS, boolS, eventsS, intsS, guestsS, vcpusS, rowS, castL, Option.bind_some, Option.map_some, Option.some.injEq, Nat.beq_refl, beq_self_eq_true, Bool.and_self, cond_true, cond_false, eq_self, beq_iff_eq, beq_eq_false_iff_ne, bne_iff_ne, bne_eq_false_iff_eq, ne_eq, decide_eq_true_eq, decide_eq_false_iff_not, ble_true, ble_false, inRange_iff, inRange_false, hs, K.clear]
      repeat' (first | refine drop_ok ?_ | intro _ | with_reducible apply And.intro)
      all_goals first | rfl | trivial | trace_state
  · have hnh : w.halted = false := by cases hq : w.halted with
      | false => rfl
      | true => exact absurd (.inl hq) hx
    have hnt' : ¬ h.time ≥ K.deadline host q := fun q => hx (.inr q)
    have hnt : h.time < K.deadline host q := by omega
    have hm := I.meas
    have hti := I.time
    have hj : j < 1000 := by split at hm <;> omega
    have hj2 : j < 200 := by split at hm <;> omega
    have hvo := I.vout
    have hvl := I.vlog
    have hmm := I.mem
    have hoo := I.out
    have nx := fun o1 o2 => I.next hnh hnt p0 q0 (by omega) h0 hp6 hde o1 o2
    have hd : decide (h.time ≥ K.deadline host q) = false := decide_eq_false (by omega)
    simp only [hnh, hd, cond_false, Tree.holds_loop, Tree.holds_fork, Tree.holds_next, if_true, Tree.holds_cond, Tree.holds_letv, Tree.holds_leaf, Tree.holds_fail, decO, decA, decTup, decMach, decCore, decTrap, decInstr, decPart, decGuest, decConf, decEvent, decVcpu, decStep, bytesS, boolS, eventsS, intsS, guestsS, vcpusS, rowS, castL, Option.bind_some, Option.map_some, Option.some.injEq, Nat.beq_refl, beq_self_eq_true, Bool.and_self, cond_true, cond_false, eq_self, beq_iff_eq, beq_eq_false_iff_ne, bne_iff_ne, bne_eq_false_iff_eq, ne_eq, decide_eq_true_eq, decide_eq_false_iff_not, ble_true, ble_false, inRange_iff, inRange_false]
    by_cases hp : K.pending w h.time = true
    · have e : K.turn1 h w p (K.deadline host q) = (h, K.inject w h.time) := by unfold K.turn1; rw [if_pos hp]
      rw [e] at nx
      have e2 : K.deliver w h.time = (K.inject w h.time, true) := by unfold K.deliver; rw [if_pos hp]
      rw [e2]
      refine ⟨fun _ => fun hok => ⟨fun _ => ?_, fun hq => Bool.noConfusion hq⟩, fun hq => ?_⟩
      · exact at_ h (K.inject w h.time) hj (nx I.ok1 (ok_vcpu (show okS (encA .vcpu (K.inject w h.time)) from hok _ (List.mem_cons_self))))
      · omega
    · have e2 : K.deliver w h.time = (w, false) := by unfold K.deliver; rw [if_neg hp]
      rw [e2]
      obtain ⟨t5, _⟩ := I.ok2.core.csr.u32 (i := 5) (by omega)
      obtain ⟨t6, _⟩ := I.ok2.core.csr.u32 (i := 6) (by omega)
      obtain ⟨t9, _⟩ := I.ok2.core.csr.u32 (i := 9) (by omega)
      obtain ⟨t10, _⟩ := I.ok2.core.csr.u32 (i := 10) (by omega)
      have hcm : 0 ≤ K.cmp w.core.csr := by unfold K.cmp; omega
      obtain ⟨h', m, u, m0, ht, he, hz, e1, es⟩ := turn1_run (host := h) (v := w) (p := p) (end_ := K.deadline host q) I.ok1.core.csr.1 p0 q0 (by omega) t5 t6 hcm I.go (by omega) hnt (by omega) (by omega)
      have e : K.turn1 h w p (K.deadline host q) = ((K.step h').1, K.handle { K.save (K.step h').1 w with done := IntKind.i64.wrap (w.done + m) } (K.step h').2 h'.time) := by unfold K.turn1; rw [if_neg hp, e1]
      rw [e] at nx
      rw [e1]
      have du := dispatch_facts (host := h) (v := w) (p := p) (alarm := K.alarm w (K.deadline host q)) I.ok1.core.csr.1 p0 q0 (by omega) t5 t6 (by unfold K.alarm; split <;> omega) (by unfold K.alarm; split <;> omega)
      refine ⟨fun _ => fun _ => ⟨fun hq => Bool.noConfusion hq, fun _ => fun _ => fun _ => ⟨fun _ => fun hok1 => fun _ => ⟨fun _ => fun hok2 => ?_, fun hq => ?_⟩, fun hq => ?_⟩⟩, fun hq => ?_⟩
      · exact at_ (K.step h').1 (K.handle { K.save (K.step h').1 w with done := IntKind.i64.wrap (w.done + m) } (K.step h').2 h'.time) hj (nx (ok_mach (show okS (encA .mach (K.step h').1) from hok1 _ (List.mem_cons_self))) (ok_vcpu hok2))
      · exfalso; apply hq; exact ⟨by show w.out.length ≤ _; omega, by show w.log.length ≤ _; omega⟩
      · exfalso; apply hq; exact ⟨es, du.1, I.go, by show h.mem.length ≤ _; omega, by show h.out.length ≤ _; omega⟩
      · omega
  
theorem c_timeslice_Run : SpecOk EB_0_1_2 11 S_timeslice_Run := spec_sigL ok_timeslice_Run (n := 60) (fun (host, v, p, q, _) => fun _ => some (L_Run host v p q)) fun ⟨host, v, p, q, ⟨⟩⟩ h hok => a_timeslice_Run host v p q (of_decide_eq_true h) (ok_mach (okSL_head hok)) (ok_vcpu (okSL_head (okSL_tail hok))) (ok_part (okSL_head (okSL_tail (okSL_tail hok)))) (ok_int (okSL_head (okSL_tail (okSL_tail (okSL_tail hok)))))
end

/-! ref05_Same -/
@[reducible] def L_ref05_Same (a b : List Int) : LoopSpec where
  σ := Nat
  slots := [0, 1, 4, 5]
  keys := []
  vals := fun j => [.rd .u8 a, .rd .u8 b, .b false, .v (.int .i64 (j : Int))]
  blks := fun _ => []
  inv := fun j => j ≤ a.length ∧ a.take j = b.take j
  mu := fun j => a.length - j
def S_ref05_Same : Spec := sig [.rd .u8, .rd .u8] [.b] (fun (a, b, _) => decide (a = b))
noncomputable def E_ref05_Same : Env := EB.adds []

theorem ok_ref05_Same : EnvOk E_ref05_Same := okEB.adds (l := _) trivial
theorem t_ref05_Same (a : List Int) (b : List Int) : evFL E_ref05_Same (fun _ => some (L_ref05_Same a b)) 60 21 (encArgs [.rd .u8, .rd .u8] (a, b, ())) = bif (bne (Int.ofNat (List.length a)) (Int.ofNat (List.length b))) then (Tree.leaf (SV.b false)) else (Tree.loop 0 (L_ref05_Same a b) [(SV.rd ETy.u8 a), (SV.rd ETy.u8 b), (SV.b false), (SV.v (Value.int IntKind.i64 (0 : Int)))] [] fun (x0 : Nat) => (bif (decide ((Int.ofNat x0) < (Int.ofNat (List.length a)))) then (bif (inRange (Int.ofNat x0) (List.length a)) then (bif (inRange (Int.ofNat x0) (List.length b)) then (bif (bne (List.getD a (Int.toNat (Int.ofNat x0)) (0 : Int)) (List.getD b (Int.toNat (Int.ofNat x0)) (0 : Int))) then (Tree.leaf (SV.b false)) else ((Tree.next 0 [(SV.rd ETy.u8 a), (SV.rd ETy.u8 b), (SV.b false), (SV.v (Value.int IntKind.i64 (IntKind.wrap IntKind.i64 ((Int.ofNat x0) + (1 : Int)))))] []))) else (Tree.fail)) else (Tree.fail)) else (Tree.leaf (SV.b true)))) := by kernel_rfl
section
attribute [local irreducible] evF evFL evFLs
theorem a_ref05_Same (a : List Int) (b : List Int) (ok_a : okBytes a) (ok_b : okBytes b) : (evFL E_ref05_Same (fun _ => some (L_ref05_Same a b)) 60 21 (encArgs [.rd .u8, .rd .u8] (a, b, ()))).ends fun out_ => decO [.b] out_ = some (decide (a = b)) := by
  rw [t_ref05_Same, Tree.ends_holds]
  simp only [Tree.holds_cond, Tree.holds_leaf, Tree.holds_loop]
  refine ⟨fun h => ?_, fun h => ?_⟩
  · have h : ¬ ((a.length : Int) = (b.length : Int)) := by simpa using h
    have : a ≠ b := fun e => h (by rw [e])
    simp [decO, decA, decTup, decMach, decCore, decTrap, decInstr, decPart, decGuest, decConf, decEvent, decVcpu, decStep, bytesS, boolS, eventsS, intsS, guestsS, vcpusS, rowS, castL, Option.bind_some, Option.map_some, Option.some.injEq, Nat.beq_refl, beq_self_eq_true, Bool.and_self, cond_true, cond_false, eq_self, this]
  have hl : (a.length : Int) = (b.length : Int) := by simpa using h
  have hl : a.length = b.length := by omega
  have hlim : a.length ≤ 140737488355328 := ok_a.1
  refine ⟨⟨(0 : Nat), rfl, rfl, ⟨Nat.zero_le _, rfl⟩, trivial⟩, fun (j : Nat) ⟨hj, he⟩ => ?_⟩
  simp only [Tree.holds_loop, Tree.holds_fork, Tree.holds_next, if_true, Tree.holds_cond, Tree.holds_letv, Tree.holds_leaf, Tree.holds_fail]
  refine ⟨fun h => ?_, fun h => ?_⟩
  · have hlt : j < a.length := by simpa using h
    have r1 : inRange (j : Int) a.length = true := inRange_iff.2 ⟨by omega, by omega⟩
    have r2 : inRange (j : Int) b.length = true := inRange_iff.2 ⟨by omega, by omega⟩
    have e2 : IntKind.i64.wrap ((j : Int) + 1) = ((j + 1 : Nat) : Int) := by rw [wrapI64 (by omega) (by omega)]; rfl
    have ga : a.getD j 0 = a[j] := by simp [hlt]
    have gb : b.getD j 0 = b[j]'(by omega) := by simp [show j < b.length by omega]
    simp only [Int.ofNat_eq_natCast, Int.toNat_natCast, r1, r2, ga, gb]
    simp only [true_implies, Bool.true_eq_false, false_implies, and_true]
    refine ⟨fun q => ?_, fun q => ?_⟩
    · have : a ≠ b := fun e => by subst e; simp at q
      simp [decO, decA, decTup, decMach, decCore, decTrap, decInstr, decPart, decGuest, decConf, decEvent, decVcpu, decStep, bytesS, boolS, eventsS, intsS, guestsS, vcpusS, rowS, castL, Option.bind_some, Option.map_some, Option.some.injEq, Nat.beq_refl, beq_self_eq_true, Bool.and_self, cond_true, cond_false, eq_self, this]
    · have q : a[j] = b[j]'(by omega) := by simpa using q
      refine ⟨j + 1, by rw [e2], rfl, ⟨by omega, ?_⟩, by show a.length - (j + 1) < a.length - j; omega⟩
      rw [List.take_succ_eq_append_getElem hlt, List.take_succ_eq_append_getElem (show j < b.length by omega), he, q]
  · have : j = a.length := by simp at h; omega
    subst this
    have : a = b := by rw [List.take_length] at he; rw [hl, List.take_length] at he; exact he
    simp [decO, decA, decTup, decMach, decCore, decTrap, decInstr, decPart, decGuest, decConf, decEvent, decVcpu, decStep, bytesS, boolS, eventsS, intsS, guestsS, vcpusS, rowS, castL, Option.bind_some, Option.map_some, Option.some.injEq, Nat.beq_refl, beq_self_eq_true, Bool.and_self, cond_true, cond_false, eq_self, this]
  
theorem c_ref05_Same : SpecOk EB 21 S_ref05_Same := spec_sigL ok_ref05_Same (n := 60) (fun (a, b, _) => fun _ => some (L_ref05_Same a b)) fun ⟨a, b, ⟨⟩⟩ h hok => a_ref05_Same a b (ok_bytes (okSL_head hok)) (ok_bytes (okSL_head (okSL_tail hok)))
end

/-! ref16_Events -/
@[reducible] def L_ref16_Events (a b : List PEvent) : LoopSpec where
  σ := Nat
  slots := [0, 1, 4, 5]
  keys := []
  vals := fun j => [.rd .event a, .rd .event b, .b false, .v (.int .i64 (j : Int))]
  blks := fun _ => []
  inv := fun j => j ≤ a.length ∧ a.take j = b.take j
  mu := fun j => a.length - j
def S_ref16_Events : Spec := sig [.rd .event, .rd .event] [.b] (fun (a, b, _) => decide (a = b))
noncomputable def E_ref16_Events : Env := EB.adds []

theorem ok_ref16_Events : EnvOk E_ref16_Events := okEB.adds (l := _) trivial
theorem t_ref16_Events (a : List PEvent) (b : List PEvent) : evFL E_ref16_Events (fun _ => some (L_ref16_Events a b)) 60 23 (encArgs [.rd .event, .rd .event] (a, b, ())) = bif (bne (Int.ofNat (List.length a)) (Int.ofNat (List.length b))) then (Tree.leaf (SV.b false)) else (Tree.loop 0 (L_ref16_Events a b) [(SV.rd ETy.event a), (SV.rd ETy.event b), (SV.b false), (SV.v (Value.int IntKind.i64 (0 : Int)))] [] fun (x0 : Nat) => (bif (decide ((Int.ofNat x0) < (Int.ofNat (List.length a)))) then (bif (inRange (Int.ofNat x0) (List.length a)) then (bif (inRange (Int.ofNat x0) (List.length b)) then (bif (Bool.not (Bool.and (BEq.beq (List.getD a (Int.toNat (Int.ofNat x0)) (PEvent.mk (0 : Int) (0 : Int) (0 : Int))).kind (List.getD b (Int.toNat (Int.ofNat x0)) (PEvent.mk (0 : Int) (0 : Int) (0 : Int))).kind) (Bool.and (BEq.beq (List.getD a (Int.toNat (Int.ofNat x0)) (PEvent.mk (0 : Int) (0 : Int) (0 : Int))).at_ (List.getD b (Int.toNat (Int.ofNat x0)) (PEvent.mk (0 : Int) (0 : Int) (0 : Int))).at_) (Bool.and (BEq.beq (List.getD a (Int.toNat (Int.ofNat x0)) (PEvent.mk (0 : Int) (0 : Int) (0 : Int))).time (List.getD b (Int.toNat (Int.ofNat x0)) (PEvent.mk (0 : Int) (0 : Int) (0 : Int))).time) true)))) then (Tree.leaf (SV.b false)) else ((Tree.next 0 [(SV.rd ETy.event a), (SV.rd ETy.event b), (SV.b false), (SV.v (Value.int IntKind.i64 (IntKind.wrap IntKind.i64 ((Int.ofNat x0) + (1 : Int)))))] []))) else (Tree.fail)) else (Tree.fail)) else (Tree.leaf (SV.b true)))) := by kernel_rfl
section
attribute [local irreducible] evF evFL evFLs
theorem a_ref16_Events (a : List PEvent) (b : List PEvent) (ok_a : okEvents a) (ok_b : okEvents b) : (evFL E_ref16_Events (fun _ => some (L_ref16_Events a b)) 60 23 (encArgs [.rd .event, .rd .event] (a, b, ()))).ends fun out_ => decO [.b] out_ = some (decide (a = b)) := by
  rw [t_ref16_Events, Tree.ends_holds]
  simp only [Tree.holds_cond, Tree.holds_leaf, Tree.holds_loop]
  refine ⟨fun h => ?_, fun h => ?_⟩
  · have h : ¬ ((a.length : Int) = (b.length : Int)) := by simpa using h
    have : a ≠ b := fun e => h (by rw [e])
    simp [decO, decA, decTup, decMach, decCore, decTrap, decInstr, decPart, decGuest, decConf, decEvent, decVcpu, decStep, bytesS, boolS, eventsS, intsS, guestsS, vcpusS, rowS, castL, Option.bind_some, Option.map_some, Option.some.injEq, Nat.beq_refl, beq_self_eq_true, Bool.and_self, cond_true, cond_false, eq_self, this]
  have hl : (a.length : Int) = (b.length : Int) := by simpa using h
  have hl : a.length = b.length := by omega
  have hlim : a.length ≤ 140737488355328 := ok_a.1
  refine ⟨⟨(0 : Nat), rfl, rfl, ⟨Nat.zero_le _, rfl⟩, trivial⟩, fun (j : Nat) ⟨hj, he⟩ => ?_⟩
  simp only [Tree.holds_loop, Tree.holds_fork, Tree.holds_next, if_true, Tree.holds_cond, Tree.holds_letv, Tree.holds_leaf, Tree.holds_fail]
  refine ⟨fun h => ?_, fun h => ?_⟩
  · have hlt : j < a.length := by simpa using h
    have r1 : inRange (j : Int) a.length = true := inRange_iff.2 ⟨by omega, by omega⟩
    have r2 : inRange (j : Int) b.length = true := inRange_iff.2 ⟨by omega, by omega⟩
    have e2 : IntKind.i64.wrap ((j : Int) + 1) = ((j + 1 : Nat) : Int) := by rw [wrapI64 (by omega) (by omega)]; rfl
    have ga : a.getD j ⟨0, 0, 0⟩ = a[j] := by simp [hlt]
    have gb : b.getD j ⟨0, 0, 0⟩ = b[j]'(by omega) := by simp [show j < b.length by omega]
    simp only [Int.ofNat_eq_natCast, Int.toNat_natCast, r1, r2, ga, gb]
    simp only [true_implies, Bool.true_eq_false, false_implies, and_true]
    have hq : ((a[j].kind == (b[j]'(by omega)).kind && (a[j].at_ == (b[j]'(by omega)).at_ && a[j].time == (b[j]'(by omega)).time)) = true) ↔ a[j] = b[j]'(by omega) := by
      simp only [Bool.and_eq_true, beq_iff_eq]
      constructor
      · rintro ⟨q1, q2, q3⟩
        cases hx : a[j]; cases hy : b[j]'(by omega); simp_all
      · intro h; rw [h]; simp
    refine ⟨fun q => ?_, fun q => ?_⟩
    · have : a ≠ b := fun e => by subst e; simp at q
      simp [decO, decA, decTup, decMach, decCore, decTrap, decInstr, decPart, decGuest, decConf, decEvent, decVcpu, decStep, bytesS, boolS, eventsS, intsS, guestsS, vcpusS, rowS, castL, Option.bind_some, Option.map_some, Option.some.injEq, Nat.beq_refl, beq_self_eq_true, Bool.and_self, cond_true, cond_false, eq_self, this]
    · have q : a[j] = b[j]'(by omega) := hq.1 (by simpa using q)
      refine ⟨j + 1, by rw [e2], rfl, ⟨by omega, ?_⟩, by show a.length - (j + 1) < a.length - j; omega⟩
      rw [List.take_succ_eq_append_getElem hlt, List.take_succ_eq_append_getElem (show j < b.length by omega), he, q]
  · have : j = a.length := by simp at h; omega
    subst this
    have : a = b := by rw [List.take_length] at he; rw [hl, List.take_length] at he; exact he
    simp [decO, decA, decTup, decMach, decCore, decTrap, decInstr, decPart, decGuest, decConf, decEvent, decVcpu, decStep, bytesS, boolS, eventsS, intsS, guestsS, vcpusS, rowS, castL, Option.bind_some, Option.map_some, Option.some.injEq, Nat.beq_refl, beq_self_eq_true, Bool.and_self, cond_true, cond_false, eq_self, this]
  
theorem c_ref16_Events : SpecOk EB 23 S_ref16_Events := spec_sigL ok_ref16_Events (n := 60) (fun (a, b, _) => fun _ => some (L_ref16_Events a b)) fun ⟨a, b, ⟨⟩⟩ h hok => a_ref16_Events a b (ok_events (okSL_head hok)) (ok_events (okSL_head (okSL_tail hok)))
end

/-! ref16_Same -/

def S_ref16_Same : Spec := sig [.vcpu, .vcpu] [.b] (fun (a, b, _) => decide (a = b))
noncomputable def E_ref16_Same : Env := EB.adds [(21, S_ref05_Same), (23, S_ref16_Events)]

theorem ok_ref16_Same : EnvOk E_ref16_Same := okEB.adds (l := _) ⟨c_ref05_Same, c_ref16_Events, trivial⟩
theorem t_ref16_Same (a : PVcpu) (b : PVcpu) : evF E_ref16_Same 60 14 (encArgs [.vcpu, .vcpu] (a, b, ())) = bif (Bool.and (decide (a.core.regs = b.core.regs)) (Bool.and (BEq.beq a.core.pc b.core.pc) (Bool.and (decide (a.core.csr = b.core.csr)) true))) then (bif a.halted then (bif b.halted then (bif (BEq.beq a.done b.done) then (Tree.letv (okO [AT.b]) (decide (a.out = b.out)) fun x0 => (bif x0 then (Tree.letv (okO [AT.b]) (decide (a.log = b.log)) fun x1 => (bif x1 then (Tree.leaf (SV.b true)) else (Tree.leaf (SV.b false)))) else (Tree.leaf (SV.b false)))) else (Tree.leaf (SV.b false))) else (Tree.leaf (SV.b false))) else (bif b.halted then (Tree.leaf (SV.b false)) else (bif (BEq.beq a.done b.done) then (Tree.letv (okO [AT.b]) (decide (a.out = b.out)) fun x0 => (bif x0 then (Tree.letv (okO [AT.b]) (decide (a.log = b.log)) fun x1 => (bif x1 then (Tree.leaf (SV.b true)) else (Tree.leaf (SV.b false)))) else (Tree.leaf (SV.b false)))) else (Tree.leaf (SV.b false))))) else (Tree.leaf (SV.b false)) := by kernel_rfl
section
attribute [local irreducible] evF evFL evFLs
theorem a_ref16_Same (a : PVcpu) (b : PVcpu) (ok_a : okVcpu a) (ok_b : okVcpu b) : (evF E_ref16_Same 60 14 (encArgs [.vcpu, .vcpu] (a, b, ()))).ends fun out_ => decO [.b] out_ = some (decide (a = b)) := by
  rw [t_ref16_Same, Tree.ends_holds]
  simp only [Tree.holds_loop, Tree.holds_fork, Tree.holds_next, if_true, Tree.holds_cond, Tree.holds_letv, Tree.holds_leaf, Tree.holds_fail, decO, decA, decTup, decMach, decCore, decTrap, decInstr, decPart, decGuest, decConf, decEvent, decVcpu, decStep, bytesS, boolS, eventsS, intsS, guestsS, vcpusS, rowS, castL, Option.bind_some, Option.map_some, Option.some.injEq, Nat.beq_refl, beq_self_eq_true, Bool.and_self, cond_true, cond_false, eq_self]
  have key : a = b ↔ (a.core.regs = b.core.regs ∧ a.core.pc = b.core.pc ∧ a.core.csr = b.core.csr ∧ a.halted = b.halted ∧ a.done = b.done ∧ a.out = b.out ∧ a.log = b.log) := by
    constructor
    · rintro rfl; simp
    · rintro ⟨h1, h2, h3, h4, h5, h6, h7⟩; exact vcpu_ext (core_ext h1 h2 h3) h6 h4 h5 h7
  simp only [key]
  repeat' (first | refine drop_ok ?_ | intro _ | with_reducible apply And.intro)
  all_goals simp_all
  
theorem c_ref16_Same : SpecOk EB 14 S_ref16_Same := spec_sig ok_ref16_Same (n := 60) fun ⟨a, b, ⟨⟩⟩ h hok => a_ref16_Same a b (ok_vcpu (okSL_head hok)) (ok_vcpu (okSL_head (okSL_tail hok)))
end

/-! law23_awake -/

def S_law23_awake : Spec := sig [] [.b] (fun _ => true)
noncomputable def E_law23_awake : Env := EB_0_1_2.adds [(25, S_ref02_Encode), (11, S_timeslice_Run), (15, S_timeslice_Deadline), (14, S_ref16_Same)]

theorem ok_law23_awake : EnvOk E_law23_awake := okEB_0_1_2.adds (l := _) ⟨(up_to_0_1_2 c_ref02_Encode), c_timeslice_Run, (up_to_0_1_2 c_timeslice_Deadline), (up_to_0_1_2 c_ref16_Same), trivial⟩
theorem t_c_law23_awake : (evF E_law23_awake 60 9 []).inst = .leaf (.b true) := by kernel_rfl
section
attribute [local irreducible] evF
theorem c_law23_awake : SpecOk EB_0_1_2 9 S_law23_awake := spec_sig ok_law23_awake (n := 60) fun _ _ _ => Tree.of_inst (Q := .of _) (by
  show ((evF E_law23_awake 60 9 []).inst).holds _
  rw [t_c_law23_awake]; exact rfl)
end

/-! ref10_Few -/

def S_ref10_Few : Spec := sig [.mach] [.b] (fun (m, _) => K.few m)
noncomputable def E_ref10_Few : Env := EB.adds []

theorem ok_ref10_Few : EnvOk E_ref10_Few := okEB.adds (l := _) trivial
theorem t_ref10_Few (m : PMach) : evF E_ref10_Few 60 27 (encArgs [.mach] (m, ())) = bif (decide ((Int.ofNat (List.length m.mem)) ≤ (600 : Int))) then (bif (decide ((Int.ofNat (List.length m.out)) ≤ (600 : Int))) then (Tree.leaf (SV.b true)) else (Tree.leaf (SV.b false))) else (Tree.leaf (SV.b false)) := by kernel_rfl
section
attribute [local irreducible] evF evFL evFLs
theorem a_ref10_Few (m : PMach) (ok_m : okMach m) : (evF E_ref10_Few 60 27 (encArgs [.mach] (m, ()))).ends fun out_ => decO [.b] out_ = some (K.few m) := by
  rw [t_ref10_Few, Tree.ends_holds]
  simp only [Tree.holds_loop, Tree.holds_fork, Tree.holds_next, if_true, Tree.holds_cond, Tree.holds_letv, Tree.holds_leaf, Tree.holds_fail, decO, decA, decTup, decMach, decCore, decTrap, decInstr, decPart, decGuest, decConf, decEvent, decVcpu, decStep, bytesS, boolS, eventsS, intsS, guestsS, vcpusS, rowS, castL, Option.bind_some, Option.map_some, Option.some.injEq, Nat.beq_refl, beq_self_eq_true, Bool.and_self, cond_true, cond_false, eq_self, beq_iff_eq, beq_eq_false_iff_ne, bne_iff_ne, bne_eq_false_iff_eq, ne_eq, decide_eq_true_eq, decide_eq_false_iff_not, ble_true, ble_false, inRange_iff, inRange_false]
  repeat' (first | refine drop_ok ?_ | intro _ | with_reducible apply And.intro)
  all_goals (first | omega | (simp_all [K.few]; done) | (simp_all [K.few] <;> omega) | simp_all [K.few])
  
theorem c_ref10_Few : SpecOk EB 27 S_ref10_Few := spec_sig ok_ref10_Few (n := 60) fun ⟨m, ⟨⟩⟩ h hok => a_ref10_Few m (ok_mach (okSL_head hok))
end

/-! ref16_Few -/

def S_ref16_Few : Spec := sig [.vcpu] [.b] (fun (v, _) => K.vfew v)
noncomputable def E_ref16_Few : Env := EB.adds []

theorem ok_ref16_Few : EnvOk E_ref16_Few := okEB.adds (l := _) trivial
theorem t_ref16_Few (v : PVcpu) : evF E_ref16_Few 60 28 (encArgs [.vcpu] (v, ())) = bif (decide ((Int.ofNat (List.length v.out)) ≤ (600 : Int))) then (bif (decide ((Int.ofNat (List.length v.log)) ≤ (600 : Int))) then (Tree.leaf (SV.b true)) else (Tree.leaf (SV.b false))) else (Tree.leaf (SV.b false)) := by kernel_rfl
section
attribute [local irreducible] evF evFL evFLs
theorem a_ref16_Few (v : PVcpu) (ok_v : okVcpu v) : (evF E_ref16_Few 60 28 (encArgs [.vcpu] (v, ()))).ends fun out_ => decO [.b] out_ = some (K.vfew v) := by
  rw [t_ref16_Few, Tree.ends_holds]
  simp only [Tree.holds_loop, Tree.holds_fork, Tree.holds_next, if_true, Tree.holds_cond, Tree.holds_letv, Tree.holds_leaf, Tree.holds_fail, decO, decA, decTup, decMach, decCore, decTrap, decInstr, decPart, decGuest, decConf, decEvent, decVcpu, decStep, bytesS, boolS, eventsS, intsS, guestsS, vcpusS, rowS, castL, Option.bind_some, Option.map_some, Option.some.injEq, Nat.beq_refl, beq_self_eq_true, Bool.and_self, cond_true, cond_false, eq_self, beq_iff_eq, beq_eq_false_iff_ne, bne_iff_ne, bne_eq_false_iff_eq, ne_eq, decide_eq_true_eq, decide_eq_false_iff_not, ble_true, ble_false, inRange_iff, inRange_false]
  repeat' (first | refine drop_ok ?_ | intro _ | with_reducible apply And.intro)
  all_goals (first | omega | (simp_all [K.vfew]; done) | (simp_all [K.vfew] <;> omega) | simp_all [K.vfew])
  
theorem c_ref16_Few : SpecOk EB 28 S_ref16_Few := spec_sig ok_ref16_Few (n := 60) fun ⟨v, ⟨⟩⟩ h hok => a_ref16_Few v (ok_vcpu (okSL_head hok))
end

/-! ref16_Form -/
@[reducible] def L_ref16_Form (v : PVcpu) : LoopSpec where
  σ := Nat
  slots := [1, 2, 3]
  keys := [1]
  vals := fun j => [.loc 0 0 0 1, .b false, .v (.int .i64 (j : Int))]
  blks := fun _ => [.cells (vcpuC v) 33]
  inv := fun j => j ≤ v.log.length ∧ ∀ i, i < j → K.evAt v.log v.done i = true
  mu := fun j => v.log.length - j
def S_ref16_Form : Spec := sig [.vcpu] [.b] (fun (v, _) => K.vform v)
noncomputable def E_ref16_Form : Env := EB.adds []

theorem ok_ref16_Form : EnvOk E_ref16_Form := okEB.adds (l := _) trivial
theorem t_ref16_Form (v : PVcpu) : evFL E_ref16_Form (fun _ => some (L_ref16_Form v)) 60 29 (encArgs [.vcpu] (v, ())) = Tree.loop 0 (L_ref16_Form v) [(SV.loc 0 0 0 1), (SV.b false), (SV.v (Value.int IntKind.i64 (0 : Int)))] [(Blk.cells [(SV.arr IntKind.u32 16 v.core.regs), (SV.v (Value.int IntKind.u32 v.core.pc)), (SV.arr IntKind.u32 12 v.core.csr), (SV.rd ETy.u8 v.out), (SV.v (Value.bool v.halted)), (SV.v (Value.int IntKind.i64 v.done)), (SV.rd ETy.event v.log)] 33)] fun (x0 : Nat) => (bif (decide ((Int.ofNat x0) < (Int.ofNat (List.length v.log)))) then (bif (inRange (Int.ofNat x0) (List.length v.log)) then (bif (decide ((List.getD v.log (Int.toNat (Int.ofNat x0)) (PEvent.mk (0 : Int) (0 : Int) (0 : Int))).kind < (1 : Int))) then (Tree.leaf (SV.b false)) else (bif (decide ((List.getD v.log (Int.toNat (Int.ofNat x0)) (PEvent.mk (0 : Int) (0 : Int) (0 : Int))).kind > (3 : Int))) then (Tree.leaf (SV.b false)) else (bif (decide ((List.getD v.log (Int.toNat (Int.ofNat x0)) (PEvent.mk (0 : Int) (0 : Int) (0 : Int))).at_ < (0 : Int))) then (Tree.leaf (SV.b false)) else (bif (decide ((List.getD v.log (Int.toNat (Int.ofNat x0)) (PEvent.mk (0 : Int) (0 : Int) (0 : Int))).at_ ≥ v.done)) then (Tree.leaf (SV.b false)) else (bif (decide ((Int.ofNat x0) > (0 : Int))) then (bif (inRange (IntKind.wrap IntKind.i64 ((Int.ofNat x0) - (1 : Int))) (List.length v.log)) then (bif (decide ((List.getD v.log (Int.toNat (Int.ofNat x0)) (PEvent.mk (0 : Int) (0 : Int) (0 : Int))).at_ ≤ (List.getD v.log
 (Int.toNat (IntKind.wrap IntKind.i64 ((Int.ofNat x0) - (1 : Int)))) (PEvent.mk (0 : Int) (0 : Int) (0 : Int))).at_)) then (Tree.leaf (SV.b false)) else ((Tree.next 0 [(SV.loc 0 0 0 1), (SV.b false), (SV.v (Value.int IntKind.i64 (IntKind.wrap IntKind.i64 ((Int.ofNat x0) + (1 : Int)))))] [(Blk.cells [(SV.arr IntKind.u32 16 v.core.regs), (SV.v (Value.int IntKind.u32 v.core.pc)), (SV.arr IntKind.u32 12 v.core.csr), (SV.rd ETy.u8 v.out), (SV.v (Value.bool v.halted)), (SV.v (Value.int IntKind.i64 v.done)), (SV.rd ETy.event v.log)] 33)]))) else (Tree.fail)) else ((Tree.next 0 [(SV.loc 0 0 0 1), (SV.b false), (SV.v (Value.int IntKind.i64 (IntKind.wrap IntKind.i64 ((Int.ofNat x0) + (1 : Int)))))] [(Blk.cells [(SV.arr IntKind.u32 16 v.core.regs), (SV.v (Value.int IntKind.u32 v.core.pc)), (SV.arr IntKind.u32 12 v.core.csr), (SV.rd ETy.u8 v.out), (SV.v (Value.bool v.halted)), (SV.v (Value.int IntKind.i64 v.done)), (SV.rd ETy.event v.log)] 33)]))))))) else (Tree.fail)) else (bif (BEq.beq (List.getD v.core.regs 0 (0 : Int)) (0 : Int)) then (bif (BEq.beq (List.getD v.core.csr 7 (0 : Int)) (0 : Int)) then (bif (BEq.beq (List.getD v.core.csr 8 (0 : Int)) (0 : Int)) then (bif (decide (v.done ≥ (0 : Int))) then (Tree.leaf (SV.b true)) else (Tree.leaf (SV.b false))) else (Tree.leaf (SV.b false))) else (Tree.leaf (SV.b false))) else (Tree.leaf (SV.b false)))) := by kernel_rfl
section
attribute [local irreducible] evF evFL evFLs
theorem a_ref16_Form (v : PVcpu) (ok_v : okVcpu v) : (evFL E_ref16_Form (fun _ => some (L_ref16_Form v)) 60 29 (encArgs [.vcpu] (v, ()))).ends fun out_ => decO [.b] out_ = some (K.vform v) := by
  rw [t_ref16_Form, Tree.ends_holds]
  have hlim : v.log.length ≤ 140737488355328 := ok_v.log.1
  simp only [Tree.holds_loop]
  refine ⟨⟨(0 : Nat), rfl, rfl, ⟨Nat.zero_le _, fun i h => absurd h (Nat.not_lt_zero _)⟩, trivial⟩, fun (j : Nat) ⟨hj, hinv⟩ => ?_⟩
  have hno : j < v.log.length → K.evAt v.log v.done j = false → K.vform v = false := fun h1 h2 => by
    have : K.logOk v.log v.done = false := by
      cases hq : K.logOk v.log v.done with
      | false => rfl
      | true => rw [logOk_iff.1 hq j h1] at h2; cases h2
    unfold K.vform; rw [this]; rfl
  have hyes : ¬ j < v.log.length → K.logOk v.log v.done = true := fun h => logOk_iff.2 fun i hi => hinv i (by omega)
  have e2 : j < v.log.length → IntKind.i64.wrap ((j : Int) + 1) = ((j + 1 : Nat) : Int) := fun h => by rw [wrapI64 (by omega) (by omega)]; rfl
  have e3 : 0 < j → IntKind.i64.wrap ((j : Int) - 1) = ((j - 1 : Nat) : Int) := fun h => by rw [wrapI64 (by omega) (by omega)]; omega
  have nx : j < v.log.length → K.evAt v.log v.done j = true → (L_ref16_Form v).at (fun y => v.log.length - y < v.log.length - j) [SV.loc 0 0 0 1, SV.b false, SV.v (.int .i64 (IntKind.i64.wrap ((j : Int) + 1)))] [Blk.cells (vcpuC v) 33] := fun h1 h2 => by
    rw [e2 h1]
    refine ⟨j + 1, rfl, rfl, ⟨h1, fun i hi => ?_⟩, by show v.log.length - (j + 1) < v.log.length - j; omega⟩
    by_cases hij : i = j
    · subst hij; exact h2
    · exact hinv i (by omega)
  have at_ : K.evAt v.log v.done j = (decide (1 ≤ (v.log.getD j ⟨0, 0, 0⟩).kind) && decide ((v.log.getD j ⟨0, 0, 0⟩).kind ≤ 3) && decide (0 ≤ (v.log.getD j ⟨0, 0, 0⟩).at_) && decide ((v.log.getD j ⟨0, 0, 0⟩).at_ < v.done) && (j == 0 || decide ((v.log.getD (j - 1) ⟨0, 0, 0⟩).at_ < (v.log.getD j ⟨0, 0, 0⟩).at_))) := rfl
  have hat : K.evAt v.log v.done j = true ↔ (1 ≤ (v.log.getD j ⟨0, 0, 0⟩).kind ∧ (v.log.getD j ⟨0, 0, 0⟩).kind ≤ 3 ∧ 0 ≤ (v.log.getD j ⟨0, 0, 0⟩).at_ ∧ (v.log.getD j ⟨0, 0, 0⟩).at_ < v.done ∧ (j = 0 ∨ (v.log.getD (j - 1) ⟨0, 0, 0⟩).at_ < (v.log.getD j ⟨0, 0, 0⟩).at_)) := by
    rw [at_]; simp only [Bool.and_eq_true, Bool.or_eq_true, beq_iff_eq, decide_eq_true_eq, and_assoc]
  have hno2 : j < v.log.length → ¬ (1 ≤ (v.log.getD j ⟨0, 0, 0⟩).kind ∧ (v.log.getD j ⟨0, 0, 0⟩).kind ≤ 3 ∧ 0 ≤ (v.log.getD j ⟨0, 0, 0⟩).at_ ∧ (v.log.getD j ⟨0, 0, 0⟩).at_ < v.done ∧ (j = 0 ∨ (v.log.getD (j - 1) ⟨0, 0, 0⟩).at_ < (v.log.getD j ⟨0, 0, 0⟩).at_)) → K.vform v = false := fun h1 h2 => hno h1 (by
    cases hq : K.evAt v.log v.done j with
    | false => rfl
    | true => exact absurd (hat.1 hq) h2)
  clear hno at_
  simp only [Tree.holds_loop, Tree.holds_fork, Tree.holds_next, if_true, Tree.holds_cond, Tree.holds_letv, Tree.holds_leaf, Tree.holds_fail, decO, decA, decTup, decMach, decCore, decTrap, decInstr, decPart, decGuest, decConf, decEvent, decVcpu, decStep, bytesS, boolS, eventsS, intsS, guestsS, vcpusS, rowS, castL, Option.bind_some, Option.map_some, Option.some.injEq, Nat.beq_refl, beq_self_eq_true, Bool.and_self, cond_true, cond_false, eq_self, beq_iff_eq, beq_eq_false_iff_ne, bne_iff_ne, bne_eq_false_iff_eq, ne_eq, decide_eq_true_eq, decide_eq_false_iff_not, ble_true, ble_false, inRange_iff, inRange_false, Int.ofNat_eq_natCast, Int.toNat_natCast]
  by_cases h0 : 0 < j
  · simp only [e3 h0, Int.toNat_natCast]
    clear e3
    repeat' (first | refine drop_ok ?_ | intro _ | with_reducible apply And.intro)
    all_goals first | omega | (refine nx (by omega) (hat.2 ?_); omega) | (rw [hno2 (by omega) (by omega)]; done) | (have := hyes (by omega); clear nx hno2 hat hyes hinv e2; simp_all [K.vform]; done)
  · have : j = 0 := by omega
    subst this
    repeat' (first | refine drop_ok ?_ | intro _ | with_reducible apply And.intro)
    all_goals first | omega | (refine nx (by omega) (hat.2 ?_); omega) | (rw [hno2 (by omega) (by omega)]; done) | (have := hyes (by omega); clear nx hno2 hat hyes hinv e2 e3; simp_all [K.vform]; done)
  
theorem c_ref16_Form : SpecOk EB 29 S_ref16_Form := spec_sigL ok_ref16_Form (n := 60) (fun (v, _) => fun _ => some (L_ref16_Form v)) fun ⟨v, ⟨⟩⟩ h hok => a_ref16_Form v (ok_vcpu (okSL_head hok))
end

/-! ref23_Fits -/
def K.fits23 (host : PMach) (v : PVcpu) (p : PPart) (q : Int) : Bool := K.few host && (K.vfew v && (K.vform v && (!host.halted && (decide (host.time ≤ 4611686018427387904) && (decide (q ≤ 60) && (decide (v.done ≤ 1099511627776) && (decide (p.base % 4 = 0) && (decide (p.size % 4 = 0) && decide (p.base + p.size ≤ host.mem.length)))))))))
theorem fits23_at {host : PMach} {v : PVcpu} {p : PPart} {q : Int} (h : K.fits23 host v p q = true) : host.halted = false ∧ host.mem.length ≤ 600 ∧ host.out.length ≤ 600 ∧ v.out.length ≤ 600 ∧ v.log.length ≤ 600 ∧ host.time ≤ 4611686018427387904 ∧ q ≤ 60 ∧ p.base + p.size ≤ host.mem.length ∧ K.vform v = true ∧ v.done ≤ 1099511627776 := by
  simp only [K.fits23, K.few, K.vfew, Bool.and_eq_true, decide_eq_true_eq, Bool.not_eq_true'] at h
  obtain ⟨⟨a1, a2⟩, ⟨a3, a4⟩, a5, a6, a7, a8, a9, _, _, a10⟩ := h
  exact ⟨a6, a1, a2, a3, a4, a7, a8, a10, a5, a9⟩
def S_ref23_Fits : Spec := sig [.mach, .vcpu, .part, .i .i64] [.b] (fun (host, v, p, q, _) => K.fits23 host v p q)
noncomputable def E_ref23_Fits : Env := EB.adds [(27, S_ref10_Few), (28, S_ref16_Few), (29, S_ref16_Form)]

theorem ok_ref23_Fits : EnvOk E_ref23_Fits := okEB.adds (l := _) ⟨c_ref10_Few, c_ref16_Few, c_ref16_Form, trivial⟩
theorem t_ref23_Fits (host : PMach) (v : PVcpu) (p : PPart) (q : Int) : evF E_ref23_Fits 60 10 (encArgs [.mach, .vcpu, .part, .i .i64] (host, v, p, q, ())) = Tree.letv (okO [AT.b]) (K.few host) fun x0 => (bif x0 then (Tree.letv (okO [AT.b]) (K.vfew v) fun x1 => (bif x1 then (Tree.letv (okO [AT.b]) (K.vform v) fun x2 => (bif x2 then (bif host.halted then (Tree.leaf (SV.b false)) else (bif (decide (host.time ≤ (4611686018427387904 : Int))) then (bif (decide (q ≤ (60 : Int))) then (bif (decide (v.done ≤ (1099511627776 : Int))) then (bif (BEq.beq (Int.tmod p.base (4 : Int)) (0 : Int)) then (bif (BEq.beq (Int.tmod p.size (4 : Int)) (0 : Int)) then (bif (decide ((IntKind.wrap IntKind.i64 ((IntKind.wrap IntKind.i64 p.base) + (IntKind.wrap IntKind.i64 p.size))) ≤ (Int.ofNat (List.length host.mem)))) then (Tree.leaf (SV.b true)) else (Tree.leaf (SV.b false))) else (Tree.leaf (SV.b false))) else (Tree.leaf (SV.b false))) else (Tree.leaf (SV.b false))) else (Tree.leaf (SV.b false))) else (Tree.leaf (SV.b false)))) else (Tree.leaf (SV.b false)))) else (Tree.leaf (SV.b false)))) else (Tree.leaf (SV.b false))) := by kernel_rfl
section
attribute [local irreducible] evF evFL evFLs
theorem a_ref23_Fits (host : PMach) (v : PVcpu) (p : PPart) (q : Int) (ok_host : okMach host) (ok_v : okVcpu v) (ok_p : okPart p) (ok_q : okI .i64 q) : (evF E_ref23_Fits 60 10 (encArgs [.mach, .vcpu, .part, .i .i64] (host, v, p, q, ()))).ends fun out_ => decO [.b] out_ = some (K.fits23 host v p q) := by
  rw [t_ref23_Fits, Tree.ends_holds]
  obtain ⟨p0, p1⟩ := okI_u32 ok_p.base
  obtain ⟨q0, q1⟩ := okI_u32 ok_p.size
  have w1 : IntKind.i64.wrap p.base = p.base := wrapI64 (by omega) (by omega)
  have w2 : IntKind.i64.wrap p.size = p.size := wrapI64 (by omega) (by omega)
  have w3 : IntKind.i64.wrap (p.base + p.size) = p.base + p.size := wrapI64 (by omega) (by omega)
  have w4 : p.base.tmod 4 = p.base % 4 := by rw [Int.tmod_eq_emod_of_nonneg p0]
  have w5 : p.size.tmod 4 = p.size % 4 := by rw [Int.tmod_eq_emod_of_nonneg q0]
  simp only [Tree.holds_loop, Tree.holds_fork, Tree.holds_next, if_true, Tree.holds_cond, Tree.holds_letv, Tree.holds_leaf, Tree.holds_fail, decO, decA, decTup, decMach, decCore, decTrap, decInstr, decPart, decGuest, decConf, decEvent, decVcpu, decStep, bytesS, boolS, eventsS, intsS, guestsS, vcpusS, rowS, castL, Option.bind_some, Option.map_some, Option.some.injEq, Nat.beq_refl, beq_self_eq_true, Bool.and_self, cond_true, cond_false, eq_self, beq_iff_eq, beq_eq_false_iff_ne, bne_iff_ne, bne_eq_false_iff_eq, ne_eq, decide_eq_true_eq, decide_eq_false_iff_not, ble_true, ble_false, inRange_iff, inRange_false, Int.ofNat_eq_natCast, w1, w2, w3, w4, w5]
  repeat' (first | refine drop_ok ?_ | intro _ | with_reducible apply And.intro)
  all_goals first | (simp only [K.fits23]; simp_all; done) | (symm; rw [Bool.eq_false_iff]; intro hq; have := hq; simp only [K.fits23, Bool.and_eq_true, decide_eq_true_eq] at this; omega) | trace_state
  
theorem c_ref23_Fits : SpecOk EB 10 S_ref23_Fits := spec_sig ok_ref23_Fits (n := 60) fun ⟨host, v, p, q, ⟨⟩⟩ h hok => a_ref23_Fits host v p q (ok_mach (okSL_head hok)) (ok_vcpu (okSL_head (okSL_tail hok))) (ok_part (okSL_head (okSL_tail (okSL_tail hok)))) (ok_int (okSL_head (okSL_tail (okSL_tail (okSL_tail hok)))))
end

/-! ref05_Cut -/
@[reducible] def L_ref05_Cut (m : List Int) (a size : Int) : LoopSpec where
  σ := Nat
  slots := [0, 1, 2, 8, 9]
  keys := [8]
  vals := fun j => [.rd .u8 m, .v (.int .u32 a), .v (.int .u32 size), .own 0, .v (.int .i64 (j : Int))]
  blks := fun j => [.row .u8 ((m.drop a.toNat).take j) 5]
  inv := fun j => (j : Int) ≤ size ∧ a + size ≤ m.length
  mu := fun j => size.toNat - j
  nils := [(8, .u8, 5)]
def S_ref05_Cut : Spec := sig [.rd .u8, .i .u32, .i .u32] [.rd .u8, .b] (fun (m, a, size, _) => if a + size ≤ m.length then ((m.drop a.toNat).take size.toNat, true) else ([], false)) (pre := fun (m, a, size, _) => decide (m.length ≤ 1099511627776))
noncomputable def E_ref05_Cut : Env := EB.adds []

theorem ok_ref05_Cut : EnvOk E_ref05_Cut := okEB.adds (l := _) trivial
theorem t_ref05_Cut (m : List Int) (a : Int) (size : Int) : evFL E_ref05_Cut (fun _ => some (L_ref05_Cut m a size)) 60 17 (encArgs [.rd .u8, .i .u32, .i .u32] (m, a, size, ())) = bif (decide ((IntKind.wrap IntKind.i64 ((IntKind.wrap IntKind.i64 a) + (IntKind.wrap IntKind.i64 size))) > (Int.ofNat (List.length m)))) then (Tree.leaf (SV.tup [(SV.v (Value.slice Option.none 0 0)), (SV.b false)])) else (Tree.loop 0 (L_ref05_Cut m a size) [(SV.rd ETy.u8 m), (SV.v (Value.int IntKind.u32 a)), (SV.v (Value.int IntKind.u32 size)), (SV.own 0), (SV.v (Value.int IntKind.i64 (0 : Int)))] [(Blk.row ETy.u8 [] 5)] fun (x0 : Nat) => (bif (decide ((Int.ofNat x0) < (IntKind.wrap IntKind.i64 size))) then (bif (inRange (IntKind.wrap IntKind.i64 ((IntKind.wrap IntKind.i64 a) + (Int.ofNat x0))) (List.length m)) then (bif (Nat.ble (((List.length (List.take x0 (List.drop (Int.toNat a) m))) + 1) * 1) 140737488355328) then ((Tree.next 0 [(SV.rd ETy.u8 m), (SV.v (Value.int IntKind.u32 a)), (SV.v (Value.int IntKind.u32 size)), (SV.own 0), (SV.v (Value.int IntKind.i64 (IntKind.wrap IntKind.i64 ((Int.ofNat x0) + (1 : Int)))))] [(Blk.row ETy.u8 (List.append (List.take x0 (List.drop (Int.toNat a) m)) [(List.getD m (Int.toNat (IntKind.wrap IntKind.i64 ((IntKind.wrap IntKind.i64 a) + (Int.ofNat x0)))) (0 : Int))]) 5)])) else (Tree.fail)) else (Tree.fail)) else (Tree.leaf (SV.tup [(SV.rd ETy.u8 (List.take x0 (List.drop (Int.toNat a) m))), (SV.b true)])))) := by kernel_rfl
section
attribute [local irreducible] evF evFL evFLs
theorem a_ref05_Cut (m : List Int) (a : Int) (size : Int) (hpre : m.length ≤ 1099511627776) (ok_m : okBytes m) (ok_a : okI .u32 a) (ok_size : okI .u32 size) : (evFL E_ref05_Cut (fun _ => some (L_ref05_Cut m a size)) 60 17 (encArgs [.rd .u8, .i .u32, .i .u32] (m, a, size, ()))).ends fun out_ => decO [.rd .u8, .b] out_ = some (if a + size ≤ m.length then ((m.drop a.toNat).take size.toNat, true) else ([], false)) := by
  rw [t_ref05_Cut, Tree.ends_holds]
  obtain ⟨a0, a1⟩ := okI_u32 ok_a
  obtain ⟨s0, s1⟩ := okI_u32 ok_size
  have w1 : IntKind.i64.wrap a = a := wrapI64 (by omega) (by omega)
  have w2 : IntKind.i64.wrap size = size := wrapI64 (by omega) (by omega)
  have w3 : IntKind.i64.wrap (a + size) = a + size := wrapI64 (by omega) (by omega)
  have w4 : ∀ j : Nat, (j : Int) < size → IntKind.i64.wrap (a + (j : Int)) = a + j := fun j h => wrapI64 (by omega) (by omega)
  have w5 : ∀ j : Nat, (j : Int) < size → IntKind.i64.wrap ((j : Int) + 1) = ((j + 1 : Nat) : Int) := fun j h => by rw [wrapI64 (by omega) (by omega)]; rfl
  simp only [Tree.holds_loop, Tree.holds_fork, Tree.holds_next, if_true, Tree.holds_cond, Tree.holds_letv, Tree.holds_leaf, Tree.holds_fail, decO, decA, decTup, decMach, decCore, decTrap, decInstr, decPart, decGuest, decConf, decEvent, decVcpu, decStep, bytesS, boolS, eventsS, intsS, guestsS, vcpusS, rowS, castL, Option.bind_some, Option.map_some, Option.some.injEq, Nat.beq_refl, beq_self_eq_true, Bool.and_self, cond_true, cond_false, eq_self, beq_iff_eq, beq_eq_false_iff_ne, bne_iff_ne, bne_eq_false_iff_eq, ne_eq, decide_eq_true_eq, decide_eq_false_iff_not, ble_true, ble_false, inRange_iff, inRange_false, Int.ofNat_eq_natCast, Int.toNat_natCast, w1, w2, w3]
  by_cases hf : a + size ≤ m.length
  · rw [if_pos hf]
    refine ⟨fun h => by omega, fun _ => ⟨⟨(0 : Nat), rfl, rfl, ⟨s0, hf⟩, trivial⟩, fun (x : Nat) hx => ⟨fun h => ?_, fun h => ?_⟩⟩⟩
    · rw [w4 x h, w5 x h]
      refine ⟨fun _ => ⟨fun _ => ⟨x + 1, rfl, ?_, ⟨by show ((x + 1 : Nat) : Int) ≤ size; omega, hf⟩, by show size.toNat - (x + 1) < size.toNat - x; omega⟩, fun q => ?_⟩, fun q => by omega⟩
      · show [Blk.row ETy.u8 (List.append (List.take x (List.drop a.toNat m)) [m.getD (a + (x : Int)).toNat 0]) 5] = [Blk.row ETy.u8 (List.take (x + 1) (List.drop a.toNat m)) 5]
        congr 2
        have hlt : x < (List.drop a.toNat m).length := by rw [List.length_drop]; omega
        rw [List.take_succ_eq_append_getElem hlt, List.append_eq, List.getElem_drop, List.getD_eq_getElem?_getD, List.getElem?_eq_getElem (by omega)]
        congr 2
        simp only [Option.getD_some]
        congr 1; omega
      · rw [List.length_take, List.length_drop] at q; omega
    · have : x = size.toNat := by omega
      rw [this]
  · rw [if_neg hf]
    exact ⟨fun _ => rfl, fun h => absurd (by omega) hf⟩
  
theorem c_ref05_Cut : SpecOk EB 17 S_ref05_Cut := spec_sigL ok_ref05_Cut (n := 60) (fun (m, a, size, _) => fun _ => some (L_ref05_Cut m a size)) fun ⟨m, a, size, ⟨⟩⟩ h hok => a_ref05_Cut m a size (of_decide_eq_true h) (ok_bytes (okSL_head hok)) (ok_int (okSL_head (okSL_tail hok))) (ok_int (okSL_head (okSL_tail (okSL_tail hok))))
end

/-! ref09_Enabled -/

def S_ref09_Enabled : Spec := sig [.core] [.b] (fun (c, _) => K.ie c)
noncomputable def E_ref09_Enabled : Env := EB.adds []

theorem ok_ref09_Enabled : EnvOk E_ref09_Enabled := okEB.adds (l := _) trivial
theorem t_ref09_Enabled (c : PCore) : evF E_ref09_Enabled 60 66 (encArgs [.core] (c, ())) = bif (BEq.beq (Int.tmod (IntKind.wrap IntKind.u32 (Int.tdiv (List.getD c.csr 0 (0 : Int)) (2 : Int))) (2 : Int)) (1 : Int)) then (Tree.leaf (SV.b true)) else (Tree.leaf (SV.b false)) := by kernel_rfl
section
attribute [local irreducible] evF evFL evFLs
theorem a_ref09_Enabled (c : PCore) (ok_c : okCore c) : (evF E_ref09_Enabled 60 66 (encArgs [.core] (c, ()))).ends fun out_ => decO [.b] out_ = some (K.ie c) := by
  rw [t_ref09_Enabled, Tree.ends_holds]
  obtain ⟨s0, s1⟩ := ok_c.csr.u32 (i := 0) (by omega)
  have e1 : Int.tmod (IntKind.u32.wrap (Int.tdiv (c.csr.getD 0 0) 2)) 2 = c.csr.getD 0 0 / 2 % 2 := by rw [Int.tdiv_eq_ediv_of_nonneg s0, wrap32, Int.tmod_eq_emod_of_nonneg (by omega)]; omega
  simp only [Tree.holds_loop, Tree.holds_fork, Tree.holds_next, if_true, Tree.holds_cond, Tree.holds_letv, Tree.holds_leaf, Tree.holds_fail, decO, decA, decTup, decMach, decCore, decTrap, decInstr, decPart, decGuest, decConf, decEvent, decVcpu, decStep, bytesS, boolS, eventsS, intsS, guestsS, vcpusS, rowS, castL, Option.bind_some, Option.map_some, Option.some.injEq, Nat.beq_refl, beq_self_eq_true, Bool.and_self, cond_true, cond_false, eq_self, beq_iff_eq, beq_eq_false_iff_ne, bne_iff_ne, bne_eq_false_iff_eq, ne_eq, decide_eq_true_eq, decide_eq_false_iff_not, ble_true, ble_false, inRange_iff, inRange_false, K.ie, e1]
  repeat' (first | refine drop_ok ?_ | intro _ | with_reducible apply And.intro)
  all_goals (simp_all; try omega)
  
theorem c_ref09_Enabled : SpecOk EB 66 S_ref09_Enabled := spec_sig ok_ref09_Enabled (n := 60) fun ⟨c, ⟨⟩⟩ h hok => a_ref09_Enabled c (ok_core (okSL_head hok))
end

/-! ref04_Compare -/

def S_ref04_Compare : Spec := sig [.a .u32 12] [.i .u64] (fun (c, _) => K.cmp c)
noncomputable def E_ref04_Compare : Env := EB.adds []

theorem ok_ref04_Compare : EnvOk E_ref04_Compare := okEB.adds (l := _) trivial
theorem t_ref04_Compare (c : List Int) : evF E_ref04_Compare 60 67 (encArgs [.a .u32 12] (c, ())) = Tree.leaf (SV.v (Value.int IntKind.u64 (IntKind.wrap IntKind.u64 ((IntKind.wrap IntKind.u64 ((IntKind.wrap IntKind.u64 (List.getD c 10 (0 : Int))) * (4294967296 : Int))) + (IntKind.wrap IntKind.u64 (List.getD c 9 (0 : Int))))))) := by kernel_rfl
section
attribute [local irreducible] evF evFL evFLs
theorem a_ref04_Compare (c : List Int) (ok_c : okL .u32 12 c) : (evF E_ref04_Compare 60 67 (encArgs [.a .u32 12] (c, ()))).ends fun out_ => decO [.i .u64] out_ = some (K.cmp c) := by
  rw [t_ref04_Compare, Tree.ends_holds]
  obtain ⟨a0, a1⟩ := ok_c.u32 (i := 9) (by omega)
  obtain ⟨b0, b1⟩ := ok_c.u32 (i := 10) (by omega)
  simp only [Tree.holds_loop, Tree.holds_fork, Tree.holds_next, if_true, Tree.holds_cond, Tree.holds_letv, Tree.holds_leaf, Tree.holds_fail, decO, decA, decTup, decMach, decCore, decTrap, decInstr, decPart, decGuest, decConf, decEvent, decVcpu, decStep, bytesS, boolS, eventsS, intsS, guestsS, vcpusS, rowS, castL, Option.bind_some, Option.map_some, Option.some.injEq, Nat.beq_refl, beq_self_eq_true, Bool.and_self, cond_true, cond_false, eq_self, K.cmp, wrap64]
  generalize c.getD 9 0 = a at *
  generalize c.getD 10 0 = b at *
  show @Eq Int _ _
  omega
  
theorem c_ref04_Compare : SpecOk EB 67 S_ref04_Compare := spec_sig ok_ref04_Compare (n := 60) fun ⟨c, ⟨⟩⟩ h hok => a_ref04_Compare c (ok_arr (okSL_head hok))
end

/-! ref10_Due -/

def S_ref10_Due : Spec := sig [.mach] [.b] (fun (m, _) => K.due m)
noncomputable def E_ref10_Due : Env := EB.adds [(66, S_ref09_Enabled), (67, S_ref04_Compare)]

theorem ok_ref10_Due : EnvOk E_ref10_Due := okEB.adds (l := _) ⟨c_ref09_Enabled, c_ref04_Compare, trivial⟩
theorem t_ref10_Due (m : PMach) : evF E_ref10_Due 60 44 (encArgs [.mach] (m, ())) = Tree.letv (okO [AT.b]) (K.ie m.core) fun x0 => (bif x0 then (Tree.letv (okO [(AT.i IntKind.u64)]) (K.cmp m.core.csr) fun x1 => (bif (decide (m.time ≥ x1)) then (Tree.leaf (SV.b true)) else (Tree.leaf (SV.b false)))) else (Tree.leaf (SV.b false))) := by kernel_rfl
section
attribute [local irreducible] evF evFL evFLs
theorem a_ref10_Due (m : PMach) (ok_m : okMach m) : (evF E_ref10_Due 60 44 (encArgs [.mach] (m, ()))).ends fun out_ => decO [.b] out_ = some (K.due m) := by
  rw [t_ref10_Due, Tree.ends_holds]
  simp only [Tree.holds_loop, Tree.holds_fork, Tree.holds_next, if_true, Tree.holds_cond, Tree.holds_letv, Tree.holds_leaf, Tree.holds_fail, decO, decA, decTup, decMach, decCore, decTrap, decInstr, decPart, decGuest, decConf, decEvent, decVcpu, decStep, bytesS, boolS, eventsS, intsS, guestsS, vcpusS, rowS, castL, Option.bind_some, Option.map_some, Option.some.injEq, Nat.beq_refl, beq_self_eq_true, Bool.and_self, cond_true, cond_false, eq_self, beq_iff_eq, beq_eq_false_iff_ne, bne_iff_ne, bne_eq_false_iff_eq, ne_eq, decide_eq_true_eq, decide_eq_false_iff_not, ble_true, ble_false, inRange_iff, inRange_false, K.due]
  repeat' (first | refine drop_ok ?_ | intro _ | with_reducible apply And.intro)
  all_goals simp_all
  
theorem c_ref10_Due : SpecOk EB 44 S_ref10_Due := spec_sig ok_ref10_Due (n := 60) fun ⟨m, ⟨⟩⟩ h hok => a_ref10_Due m (ok_mach (okSL_head hok))
end

/-! ref01_Field -/

def S_ref01_Field : Spec := sig [.i .u32, .i .i64, .i .i64] [.i .u32] (fun (w, at_, n, _) => K.field w at_ n) (pre := fun (w, at_, n, _) => decide (at_ ≤ 63 ∧ n ≤ 63))
noncomputable def E_ref01_Field : Env := EB.adds [(92, S_ref01_Pow)]

theorem ok_ref01_Field : EnvOk E_ref01_Field := okEB.adds (l := _) ⟨c_ref01_Pow, trivial⟩
theorem t_ref01_Field (w : Int) (at_ : Int) (n : Int) : evF E_ref01_Field 60 76 (encArgs [.i .u32, .i .i64, .i .i64] (w, at_, n, ())) = bif (decide (at_ ≤ (63 : Int))) then (Tree.letv (okO [(AT.i IntKind.u64)]) (K.pow at_) fun x0 => (bif (bne x0 (0 : Int)) then (bif (decide (n ≤ (63 : Int))) then (Tree.letv (okO [(AT.i IntKind.u64)]) (K.pow n) fun x1 => (bif (bne x1 (0 : Int)) then (Tree.leaf (SV.v (Value.int IntKind.u32 (IntKind.wrap IntKind.u32 (Int.tmod (IntKind.wrap IntKind.u64 (Int.tdiv (IntKind.wrap IntKind.u64 w) x0)) x1))))) else (Tree.fail))) else (Tree.fail)) else (Tree.fail))) else (Tree.fail) := by kernel_rfl
section
attribute [local irreducible] evF evFL evFLs
theorem a_ref01_Field (w : Int) (at_ : Int) (n : Int) (hpre : at_ ≤ 63 ∧ n ≤ 63) (ok_w : okI .u32 w) (ok_at_ : okI .i64 at_) (ok_n : okI .i64 n) : (evF E_ref01_Field 60 76 (encArgs [.i .u32, .i .i64, .i .i64] (w, at_, n, ()))).ends fun out_ => decO [.i .u32] out_ = some (K.field w at_ n) := by
  rw [t_ref01_Field, Tree.ends_holds]
  obtain ⟨w0, w1⟩ := okI_u32 ok_w
  have p1 := K.pow_pos at_
  have p2 := K.pow_pos n
  have p3 := K.pow_le hpre.1
  have p4 := K.pow_le hpre.2
  have q1 : w / K.pow at_ ≤ w := Int.ediv_le_self _ w0
  have q0 : 0 ≤ w / K.pow at_ := Int.ediv_nonneg w0 (by omega)
  have q2 := Int.emod_nonneg (w / K.pow at_) (show K.pow n ≠ 0 by omega)
  have q3 : w / K.pow at_ % K.pow n ≤ w / K.pow at_ := emod_le q0 p2
  have e1 : IntKind.u64.wrap w = w := by rw [wrap64]; omega
  have e2 : Int.tdiv w (K.pow at_) = w / K.pow at_ := Int.tdiv_eq_ediv_of_nonneg w0
  have e3 : IntKind.u64.wrap (w / K.pow at_) = w / K.pow at_ := by rw [wrap64]; omega
  have e4 : Int.tmod (w / K.pow at_) (K.pow n) = w / K.pow at_ % K.pow n := Int.tmod_eq_emod_of_nonneg q0
  have e5 : IntKind.u32.wrap (w / K.pow at_ % K.pow n) = w / K.pow at_ % K.pow n := by rw [wrap32]; omega
  simp only [Tree.holds_loop, Tree.holds_fork, Tree.holds_next, if_true, Tree.holds_cond, Tree.holds_letv, Tree.holds_leaf, Tree.holds_fail, decO, decA, decTup, decMach, decCore, decTrap, decInstr, decPart, decGuest, decConf, decEvent, decVcpu, decStep, bytesS, boolS, eventsS, intsS, guestsS, vcpusS, rowS, castL, Option.bind_some, Option.map_some, Option.some.injEq, Nat.beq_refl, beq_self_eq_true, Bool.and_self, cond_true, cond_false, eq_self, K.field, decide_eq_true hpre.1, decide_eq_true hpre.2, e1, e2, e3, e4, e5]
  have n1 : (K.pow at_ != 0) = true := bne_iff_ne.2 (by omega)
  have n2 : (K.pow n != 0) = true := bne_iff_ne.2 (by omega)
  simp [n1, n2]
  
theorem c_ref01_Field : SpecOk EB 76 S_ref01_Field := spec_sig ok_ref01_Field (n := 60) fun ⟨w, at_, n, ⟨⟩⟩ h hok => a_ref01_Field w at_ n (of_decide_eq_true h) (ok_int (okSL_head hok)) (ok_int (okSL_head (okSL_tail hok))) (ok_int (okSL_head (okSL_tail (okSL_tail hok))))
end

/-! ref01_Put -/
def K.putTo (w at_ n v : Int) (j : Nat) : Int := ((K.bput w at_ n v).toNat % 2 ^ j : Nat)
@[reducible] def L_ref01_Put (w at_ n v : Int) : LoopSpec where
  σ := Nat
  slots := [0, 1, 2, 3, 9, 10]
  keys := []
  vals := fun j => [.v (.int .u32 w), .v (.int .i64 at_), .v (.int .i64 n), .v (.int .u32 v), .v (.int .u64 (K.putTo w at_ n v j)), .v (.int .i64 (j : Int))]
  blks := fun _ => []
  inv := fun j => j ≤ 32
  mu := fun j => 32 - j
def S_ref01_Put : Spec := sig [.i .u32, .i .i64, .i .i64, .i .u32] [.i .u32] (fun (w, at_, n, v, _) => K.bput w at_ n v) (pre := fun (w, at_, n, v, _) => decide (0 ≤ at_ ∧ 0 ≤ n ∧ at_ + n ≤ 32))
noncomputable def E_ref01_Put : Env := EB.adds [(92, S_ref01_Pow), (76, S_ref01_Field)]

theorem ok_ref01_Put : EnvOk E_ref01_Put := okEB.adds (l := _) ⟨c_ref01_Pow, c_ref01_Field, trivial⟩
theorem t_ref01_Put (w : Int) (at_ : Int) (n : Int) (v : Int) : evFL E_ref01_Put (fun _ => some (L_ref01_Put w at_ n v)) 60 77 (encArgs [.i .u32, .i .i64, .i .i64, .i .u32] (w, at_, n, v, ())) = Tree.loop 0 (L_ref01_Put w at_ n v) [(SV.v (Value.int IntKind.u32 w)), (SV.v (Value.int IntKind.i64 at_)), (SV.v (Value.int IntKind.i64 n)), (SV.v (Value.int IntKind.u32 v)), (SV.v (Value.int IntKind.u64 (0 : Int))), (SV.v (Value.int IntKind.i64 (0 : Int)))] [] fun (x0 : Nat) => (bif (decide ((Int.ofNat x0) < (32 : Int))) then (bif (decide (And ((Int.ofNat x0) ≤ (63 : Int)) ((1 : Int) ≤ (63 : Int)))) then (Tree.letv (okO [(AT.i IntKind.u32)]) (K.field w (Int.ofNat x0) (1 : Int)) fun x1 => (bif (decide ((Int.ofNat x0) ≥ at_)) then (bif (decide ((Int.ofNat x0) < (IntKind.wrap IntKind.i64 (at_ + n)))) then (bif (decide (And ((IntKind.wrap IntKind.i64 ((Int.ofNat x0) - at_)) ≤ (63 : Int)) ((1 : Int) ≤ (63 : Int)))) then (Tree.letv (okO [(AT.i IntKind.u32)]) (K.field v (IntKind.wrap IntKind.i64 ((Int.ofNat x0) - at_)) (1 : Int)) fun x2 => (bif (decide ((Int.ofNat x0) ≤ (63 : Int))) then (Tree.letv (okO [(AT.i IntKind.u64)]) (K.pow (Int.ofNat x0)) fun x3 => ((Tree.next 0 [(SV.v (Value.int IntKind.u32 w)), (SV.v (Value.int IntKind.i64 at_)), (SV.v (Value.int IntKind.i64 n)), (SV.v (Value.int IntKind.u32 v)), (SV.v (Value.int IntKind.u64 (IntKind.wrap IntKind.u64 ((K.putTo w at_ n v x0) + (IntKind.wrap IntKind.u64 ((IntKind.wrap IntKind.u64 x2) * x3)))))), (SV.v (Value.int IntKind.i64
 (IntKind.wrap IntKind.i64 ((Int.ofNat x0) + (1 : Int)))))] []))) else (Tree.fail))) else (Tree.fail)) else (bif (decide ((Int.ofNat x0) ≤ (63 : Int))) then (Tree.letv (okO [(AT.i IntKind.u64)]) (K.pow (Int.ofNat x0)) fun x2 => ((Tree.next 0 [(SV.v (Value.int IntKind.u32 w)), (SV.v (Value.int IntKind.i64 at_)), (SV.v (Value.int IntKind.i64 n)), (SV.v (Value.int IntKind.u32 v)), (SV.v (Value.int IntKind.u64 (IntKind.wrap IntKind.u64 ((K.putTo w at_ n v x0) + (IntKind.wrap IntKind.u64 ((IntKind.wrap IntKind.u64 x1) * x2)))))), (SV.v (Value.int IntKind.i64 (IntKind.wrap IntKind.i64 ((Int.ofNat x0) + (1 : Int)))))] []))) else (Tree.fail))) else (bif (decide ((Int.ofNat x0) ≤ (63 : Int))) then (Tree.letv (okO [(AT.i IntKind.u64)]) (K.pow (Int.ofNat x0)) fun x2 => ((Tree.next 0 [(SV.v (Value.int IntKind.u32 w)), (SV.v (Value.int IntKind.i64 at_)), (SV.v (Value.int IntKind.i64 n)), (SV.v (Value.int IntKind.u32 v)), (SV.v (Value.int IntKind.u64 (IntKind.wrap IntKind.u64 ((K.putTo w at_ n v x0) + (IntKind.wrap IntKind.u64 ((IntKind.wrap IntKind.u64 x1) * x2)))))), (SV.v (Value.int IntKind.i64 (IntKind.wrap IntKind.i64 ((Int.ofNat x0) + (1 : Int)))))] []))) else (Tree.fail)))) else (Tree.fail)) else (Tree.leaf (SV.v (Value.int IntKind.u32 (IntKind.wrap IntKind.u32 (K.putTo w at_ n v x0)))))) := by kernel_rfl
section
attribute [local irreducible] evF evFL evFLs
theorem a_ref01_Put (w : Int) (at_ : Int) (n : Int) (v : Int) (hpre : 0 ≤ at_ ∧ 0 ≤ n ∧ at_ + n ≤ 32) (ok_w : okI .u32 w) (ok_at_ : okI .i64 at_) (ok_n : okI .i64 n) (ok_v : okI .u32 v) : (evFL E_ref01_Put (fun _ => some (L_ref01_Put w at_ n v)) 60 77 (encArgs [.i .u32, .i .i64, .i .i64, .i .u32] (w, at_, n, v, ()))).ends fun out_ => decO [.i .u32] out_ = some (K.bput w at_ n v) := by
  rw [t_ref01_Put, Tree.ends_holds]
  obtain ⟨w0, w1⟩ := okI_u32 ok_w
  obtain ⟨v0, v1⟩ := okI_u32 ok_v
  obtain ⟨w, rfl⟩ := Int.eq_ofNat_of_zero_le w0
  obtain ⟨v, rfl⟩ := Int.eq_ofNat_of_zero_le v0
  obtain ⟨a, rfl⟩ := Int.eq_ofNat_of_zero_le hpre.1
  obtain ⟨n, rfl⟩ := Int.eq_ofNat_of_zero_le hpre.2.1
  have hT := bput_lt (w := w) (a := a) (n := n) (v := v) (by omega) (by omega)
  have hbit := fun j => bput_bit (w := w) (a := a) (n := n) (v := v) (j := j)
  have hK : (K.bput (w : Int) (a : Int) (n : Int) (v : Int)).toNat = 2 ^ a * (2 ^ n * (w / 2 ^ (a + n)) + v % 2 ^ n) + w % 2 ^ a := by unfold K.bput; rw [Int.toNat_natCast]; simp only [Int.toNat_natCast]
  simp only [Tree.holds_loop]
  refine ⟨⟨(0 : Nat), by simp [K.putTo, Nat.mod_one], rfl, Nat.zero_le _, trivial⟩, fun (j : Nat) (hj : j ≤ 32) => ?_⟩
  generalize 2 ^ a * (2 ^ n * (w / 2 ^ (a + n)) + v % 2 ^ n) + w % 2 ^ a = T at hT hbit hK
  simp only [Tree.holds_loop, Tree.holds_fork, Tree.holds_next, if_true, Tree.holds_cond, Tree.holds_letv, Tree.holds_leaf, Tree.holds_fail]
  have c63 : decide (Int.ofNat j ≤ 63 ∧ (1 : Int) ≤ 63) = true := by simp; omega
  have f1 : ∀ x i : Nat, x < 4294967296 → i < 32 → IntKind.u64.wrap (K.field (x : Int) (i : Int) 1) * K.pow (j : Int) = (((x.testBit i).toNat * 2 ^ j : Nat) : Int) := fun x i hx hi => by
    have : K.field (x : Int) (i : Int) 1 = ((x.testBit i).toNat : Int) := by
      unfold K.field K.pow
      rw [← div_bit_aux]
      simp
    rw [this, wrap64]
    have := Bool.toNat_le (x.testBit i)
    unfold K.pow
    rw [Int.natCast_mul, Int.emod_eq_of_lt (by omega) (by omega)]; simp
  refine ⟨fun h => ?_, fun h => ?_⟩
  · have hlt : j < 32 := by simp at h; omega
    have h2 := pow_le32 (i := j) (by omega)
    have e2 : IntKind.i64.wrap ((j : Int) + 1) = ((j + 1 : Nat) : Int) := by rw [wrapI64 (by omega) (by omega)]; rfl
    have e3 : IntKind.i64.wrap ((a : Int) + (n : Int)) = ((a + n : Nat) : Int) := by rw [wrapI64 (by omega) (by omega)]; rfl
    have key : ∀ x i : Nat, x < 4294967296 → i < 32 → x.testBit i = T.testBit j → IntKind.u64.wrap (K.putTo w a n v j + IntKind.u64.wrap (IntKind.u64.wrap (K.field (x : Int) (i : Int) 1) * K.pow (j : Int))) = K.putTo w a n v (j + 1) := fun x i hx hi hb => by
      rw [f1 x i hx hi, hb]
      unfold K.putTo
      rw [hK, wrap64, wrap64, bit_more_aux]
      have h3 : T % 2 ^ j < 2 ^ j := Nat.mod_lt _ (Nat.two_pow_pos j)
      have h4 := Bool.toNat_le (T.testBit j)
      have h5 : (T.testBit j).toNat * 2 ^ j ≤ 2 ^ j := by
        rcases Nat.le_one_iff_eq_zero_or_eq_one.1 h4 with e | e <;> rw [e] <;> omega
      rw [Nat.mul_comm (2 ^ j)]
      generalize (T.testBit j).toNat * 2 ^ j = z at *
      generalize T % 2 ^ j = y at *
      omega
    have nx : ∀ z : Int, z = K.putTo w a n v (j + 1) → (L_ref01_Put w a n v).at (fun y => (L_ref01_Put w a n v).mu y < (L_ref01_Put w a n v).mu j) [SV.v (.int .u32 (w : Int)), .v (.int .i64 (a : Int)), .v (.int .i64 (n : Int)), .v (.int .u32 (v : Int)), .v (.int .u64 z), .v (.int .i64 (IntKind.i64.wrap ((j : Int) + 1)))] [] := fun z hz => by
      refine ⟨j + 1, ?_, rfl, ?_, ?_⟩
      · rw [hz, e2]
      · show j + 1 ≤ 32; omega
      · show 32 - (j + 1) < 32 - j; omega
    have hw := key w j (by omega) hlt
    have hb := hbit j
    simp only [Int.ofNat_eq_natCast] at *
    have no : ∀ {q : Prop} [Decidable q], q → ¬ decide q = false := fun h e => by simp [h] at e
    simp only [e3]
    refine ⟨fun _ _ => ⟨fun g1 => ⟨fun g2 => ?_, fun g2 => ?_⟩, fun g1 => ?_⟩, fun q => no (by omega) q⟩
    · have g1 : a ≤ j := by simpa using g1
      have g2 : j < a + n := by simp at g2; omega
      have e4 : IntKind.i64.wrap ((j : Int) - (a : Int)) = ((j - a : Nat) : Int) := by rw [wrapI64 (by omega) (by omega)]; omega
      rw [if_pos ⟨g1, g2⟩] at hb
      simp only [Int.ofNat_eq_natCast, e4]
      exact ⟨fun _ _ => ⟨fun _ _ => nx _ (key v (j - a) (by omega) (by omega) hb.symm), fun q => no (by omega) q⟩, fun q => no (by omega) q⟩
    · have g2 : ¬ j < a + n := by simp at g2; omega
      rw [if_neg (by omega)] at hb
      exact ⟨fun _ _ => nx _ (hw hb.symm), fun q => no (by omega) q⟩
    · have g1 : ¬ a ≤ j := by simpa using g1
      rw [if_neg (by omega)] at hb
      exact ⟨fun _ _ => nx _ (hw hb.symm), fun q => no (by omega) q⟩
  · have : j = 32 := by simp at h; omega
    subst this
    have e : K.putTo (w : Int) (a : Int) (n : Int) (v : Int) 32 = K.bput (w : Int) (a : Int) (n : Int) (v : Int) := by
      unfold K.putTo
      rw [hK, Nat.mod_eq_of_lt (show T < 2 ^ 32 by omega), ← hK, Int.toNat_of_nonneg (by unfold K.bput; omega)]
    have e2 : K.bput (w : Int) (a : Int) (n : Int) (v : Int) < 4294967296 := by
      have : 0 ≤ K.bput (w : Int) (a : Int) (n : Int) (v : Int) := by unfold K.bput; omega
      omega
    have e3 : 0 ≤ K.bput (w : Int) (a : Int) (n : Int) (v : Int) := by unfold K.bput; omega
    rw [e, wrap32, Int.emod_eq_of_lt e3 e2]
    rfl
  
theorem c_ref01_Put : SpecOk EB 77 S_ref01_Put := spec_sigL ok_ref01_Put (n := 60) (fun (w, at_, n, v, _) => fun _ => some (L_ref01_Put w at_ n v)) fun ⟨w, at_, n, v, ⟨⟩⟩ h hok => a_ref01_Put w at_ n v (of_decide_eq_true h) (ok_int (okSL_head hok)) (ok_int (okSL_head (okSL_tail hok))) (ok_int (okSL_head (okSL_tail (okSL_tail hok)))) (ok_int (okSL_head (okSL_tail (okSL_tail (okSL_tail hok)))))
end

/-! ref09_Enter -/

def S_ref09_Enter : Spec := sig [.core, .trap] [.core] (fun (c, t, _) => K.enter c t)
noncomputable def E_ref09_Enter : Env := EB.adds [(77, S_ref01_Put), (76, S_ref01_Field)]

theorem ok_ref09_Enter : EnvOk E_ref09_Enter := okEB.adds (l := _) ⟨c_ref01_Put, c_ref01_Field, trivial⟩
theorem t_ref09_Enter (c : PCore) (t : PTrap) : evF E_ref09_Enter 60 45 (encArgs [.core, .trap] (c, t, ())) = bif (BEq.beq t.cause (0 : Int)) then (Tree.leaf (SV.agg [(SV.arr IntKind.u32 16 c.regs), (SV.v (Value.int IntKind.u32 c.pc)), (SV.arr IntKind.u32 12 c.csr)])) else (Tree.letv (okO [(AT.i IntKind.u32)]) (K.field (List.getD c.csr 0 (0 : Int)) (0 : Int) (1 : Int)) fun x0 => (Tree.letv (okO [(AT.i IntKind.u32)]) (K.field (List.getD c.csr 0 (0 : Int)) (1 : Int) (1 : Int)) fun x1 => (Tree.letv (okO [(AT.i IntKind.u32)]) (K.bput (List.getD c.csr 0 (0 : Int)) (0 : Int) (4 : Int) (IntKind.wrap IntKind.u32 ((IntKind.wrap IntKind.u32 ((1 : Int) + (IntKind.wrap IntKind.u32 ((4 : Int) * x0)))) + (IntKind.wrap IntKind.u32 ((8 : Int) * x1))))) fun x2 => (Tree.leaf (SV.agg [(SV.arr IntKind.u32 16 c.regs), (SV.v (Value.int IntKind.u32 (List.getD (List.set (List.set (List.set (List.set c.csr 0 x2) 1 c.pc) 2 (IntKind.wrap IntKind.u32 t.cause)) 3 t.tval) 4 (0 : Int)))), (SV.arr IntKind.u32 12 (List.set (List.set (List.set (List.set c.csr 0 x2) 1 c.pc) 2 (IntKind.wrap IntKind.u32 t.cause)) 3 t.tval))]))))) := by kernel_rfl
section
attribute [local irreducible] evF evFL evFLs
theorem a_ref09_Enter (c : PCore) (t : PTrap) (ok_c : okCore c) (ok_t : okTrap t) : (evF E_ref09_Enter 60 45 (encArgs [.core, .trap] (c, t, ()))).ends fun out_ => decO [.core] out_ = some (K.enter c t) := by
  rw [t_ref09_Enter, Tree.ends_holds]
  obtain ⟨s0, s1⟩ := ok_c.csr.u32 (i := 0) (by omega)
  obtain ⟨a0, a1, a2, a3, a4, a5, a6, a7, a8, a9, a10, a11, hc⟩ := list12 ok_c.csr.1
  have hs : c.csr.getD 0 0 = a0 := by rw [hc]; rfl
  rw [hs] at s0 s1
  simp only [Tree.holds_loop, Tree.holds_fork, Tree.holds_next, if_true, Tree.holds_cond, Tree.holds_letv, Tree.holds_leaf, Tree.holds_fail, decO, decA, decTup, decMach, decCore, decTrap, decInstr, decPart, decGuest, decConf, decEvent, decVcpu, decStep, bytesS, boolS, eventsS, intsS, guestsS, vcpusS, rowS, castL, Option.bind_some, Option.map_some, Option.some.injEq, Nat.beq_refl, beq_self_eq_true, Bool.and_self, cond_true, cond_false, eq_self, beq_iff_eq, beq_eq_false_iff_ne, bne_iff_ne, bne_eq_false_iff_eq, ne_eq, decide_eq_true_eq, decide_eq_false_iff_not, ble_true, ble_false, inRange_iff, inRange_false, K.enter, hc, wrap32]
  simp only [List.set_cons_zero, List.set_cons_succ, List.getD_cons_zero, List.getD_cons_succ]
  refine ⟨fun h => ?_, fun h => ?_⟩
  · rw [if_pos h, ← hc]
  rw [if_neg h]
  unfold K.enterS
  have f0 : K.field a0 0 1 = a0 % 2 := by simp [K.field, K.pow]
  have f1 : K.field a0 1 1 = a0 / 2 % 2 := by simp [K.field, K.pow]
  have p : ∀ x v : Int, K.bput x 0 4 v = ((16 * (x.toNat / 16) + v.toNat % 16 : Nat) : Int) := fun x v => by simp [K.bput, Nat.mod_one]
  rw [f0, f1, p]
  intro _ _ _
  simp only [PCore.mk.injEq, List.cons.injEq, and_true, true_and]
  show @Eq Int _ _
  omega
  
theorem c_ref09_Enter : SpecOk EB 45 S_ref09_Enter := spec_sig ok_ref09_Enter (n := 60) fun ⟨c, t, ⟨⟩⟩ h hok => a_ref09_Enter c t (ok_core (okSL_head hok)) (ok_trap (okSL_head (okSL_tail hok)))
end

/-! ref06_By -/

def S_ref06_By : Spec := sig [.i .u32, .i .u32, .i .u32, .i .u32, .i .i64] [.i .u32, .b] (fun (base, bound, size, a, n, _) => K.reloc base bound size a n) (pre := fun (base, bound, size, a, n, _) => decide (0 ≤ n ∧ n ≤ 1099511627776))
noncomputable def E_ref06_By : Env := EB.adds []

theorem ok_ref06_By : EnvOk E_ref06_By := okEB.adds (l := _) trivial
theorem t_ref06_By (base : Int) (bound : Int) (size : Int) (a : Int) (n : Int) : evF E_ref06_By 60 151 (encArgs [.i .u32, .i .u32, .i .u32, .i .u32, .i .i64] (base, bound, size, a, n, ())) = bif (decide ((IntKind.wrap IntKind.i64 ((IntKind.wrap IntKind.i64 a) + n)) > (IntKind.wrap IntKind.i64 bound))) then (Tree.leaf (SV.tup [(SV.v (Value.int IntKind.u32 (0 : Int))), (SV.b false)])) else (bif (decide ((IntKind.wrap IntKind.i64 ((IntKind.wrap IntKind.i64 base) + (IntKind.wrap IntKind.i64 ((IntKind.wrap IntKind.i64 a) + n)))) > (IntKind.wrap IntKind.i64 size))) then (Tree.leaf (SV.tup [(SV.v (Value.int IntKind.u32 (0 : Int))), (SV.b false)])) else (Tree.leaf (SV.tup [(SV.v (Value.int IntKind.u32 (IntKind.wrap IntKind.u32 (IntKind.wrap IntKind.i64 ((IntKind.wrap IntKind.i64 base) + (IntKind.wrap IntKind.i64 a)))))), (SV.b true)]))) := by kernel_rfl
section
attribute [local irreducible] evF evFL evFLs
theorem a_ref06_By (base : Int) (bound : Int) (size : Int) (a : Int) (n : Int) (hpre : 0 ≤ n ∧ n ≤ 1099511627776) (ok_base : okI .u32 base) (ok_bound : okI .u32 bound) (ok_size : okI .u32 size) (ok_a : okI .u32 a) (ok_n : okI .i64 n) : (evF E_ref06_By 60 151 (encArgs [.i .u32, .i .u32, .i .u32, .i .u32, .i .i64] (base, bound, size, a, n, ()))).ends fun out_ => decO [.i .u32, .b] out_ = some (K.reloc base bound size a n) := by
  rw [t_ref06_By, Tree.ends_holds]
  obtain ⟨a0, a1⟩ := okI_u32 ok_a
  obtain ⟨b0, b1⟩ := okI_u32 ok_base
  obtain ⟨c0, c1⟩ := okI_u32 ok_bound
  obtain ⟨d0, d1⟩ := okI_u32 ok_size
  have e1 : IntKind.i64.wrap a = a := wrapI64 (by omega) (by omega)
  have e3 : IntKind.i64.wrap size = size := wrapI64 (by omega) (by omega)
  have e4 : IntKind.i64.wrap (a + n) = a + n := wrapI64 (by omega) (by omega)
  have e5 : IntKind.i64.wrap base = base := wrapI64 (by omega) (by omega)
  have e6 : IntKind.i64.wrap bound = bound := wrapI64 (by omega) (by omega)
  have e7 : IntKind.i64.wrap (base + (a + n)) = base + (a + n) := wrapI64 (by omega) (by omega)
  have e8 : IntKind.i64.wrap (base + a) = base + a := wrapI64 (by omega) (by omega)
  simp only [Tree.holds_loop, Tree.holds_fork, Tree.holds_next, if_true, Tree.holds_cond, Tree.holds_letv, Tree.holds_leaf, Tree.holds_fail, decO, decA, decTup, decMach, decCore, decTrap, decInstr, decPart, decGuest, decConf, decEvent, decVcpu, decStep, bytesS, boolS, eventsS, intsS, guestsS, vcpusS, rowS, castL, Option.bind_some, Option.map_some, Option.some.injEq, Nat.beq_refl, beq_self_eq_true, Bool.and_self, cond_true, cond_false, eq_self, beq_iff_eq, beq_eq_false_iff_ne, bne_iff_ne, bne_eq_false_iff_eq, ne_eq, decide_eq_true_eq, decide_eq_false_iff_not, ble_true, ble_false, inRange_iff, inRange_false, K.reloc, e1, e3, e4, e5, e6, e7, e8]
  repeat' (first | refine drop_ok ?_ | intro _ | with_reducible apply And.intro)
  all_goals first | (rw [if_neg (by omega)]; done) | (rw [if_pos (by omega), show IntKind.u32.wrap (base + a) = base + a by rw [wrap32]; omega])
  
theorem c_ref06_By : SpecOk EB 151 S_ref06_By := spec_sig ok_ref06_By (n := 60) fun ⟨base, bound, size, a, n, ⟨⟩⟩ h hok => a_ref06_By base bound size a n (of_decide_eq_true h) (ok_int (okSL_head hok)) (ok_int (okSL_head (okSL_tail hok))) (ok_int (okSL_head (okSL_tail (okSL_tail hok)))) (ok_int (okSL_head (okSL_tail (okSL_tail (okSL_tail hok))))) (ok_int (okSL_head (okSL_tail (okSL_tail (okSL_tail (okSL_tail hok))))))
end

/-! ref06_Super -/

def S_ref06_Super : Spec := sig [.core] [.b] (fun (c, _) => K.super c)
noncomputable def E_ref06_Super : Env := EB.adds []

theorem ok_ref06_Super : EnvOk E_ref06_Super := okEB.adds (l := _) trivial
theorem t_ref06_Super (c : PCore) : evF E_ref06_Super 60 24 (encArgs [.core] (c, ())) = bif (BEq.beq (Int.tmod (List.getD c.csr 0 (0 : Int)) (2 : Int)) (1 : Int)) then (Tree.leaf (SV.b true)) else (Tree.leaf (SV.b false)) := by kernel_rfl
section
attribute [local irreducible] evF evFL evFLs
theorem a_ref06_Super (c : PCore) (ok_c : okCore c) : (evF E_ref06_Super 60 24 (encArgs [.core] (c, ()))).ends fun out_ => decO [.b] out_ = some (K.super c) := by
  rw [t_ref06_Super, Tree.ends_holds]
  obtain ⟨s0, s1⟩ := ok_c.csr.u32 (i := 0) (by omega)
  simp only [Tree.holds_loop, Tree.holds_fork, Tree.holds_next, if_true, Tree.holds_cond, Tree.holds_letv, Tree.holds_leaf, Tree.holds_fail, decO, decA, decTup, decMach, decCore, decTrap, decInstr, decPart, decGuest, decConf, decEvent, decVcpu, decStep, bytesS, boolS, eventsS, intsS, guestsS, vcpusS, rowS, castL, Option.bind_some, Option.map_some, Option.some.injEq, Nat.beq_refl, beq_self_eq_true, Bool.and_self, cond_true, cond_false, eq_self, beq_iff_eq, beq_eq_false_iff_ne, bne_iff_ne, bne_eq_false_iff_eq, ne_eq, decide_eq_true_eq, decide_eq_false_iff_not, ble_true, ble_false, inRange_iff, inRange_false, K.super, Int.tmod_eq_emod_of_nonneg s0]
  repeat' (first | refine drop_ok ?_ | intro _ | with_reducible apply And.intro)
  all_goals simp_all
  
theorem c_ref06_Super : SpecOk EB 24 S_ref06_Super := spec_sig ok_ref06_Super (n := 60) fun ⟨c, ⟨⟩⟩ h hok => a_ref06_Super c (ok_core (okSL_head hok))
end

/-! ref06_At -/

def S_ref06_At : Spec := sig [.core, .i .u32, .i .u32, .i .i64] [.i .u32, .b] (fun (c, size, a, n, _) => K.trans c size a n) (pre := fun (c, size, a, n, _) => decide (0 ≤ n ∧ n ≤ 1099511627776))
noncomputable def E_ref06_At : Env := EB.adds [(151, S_ref06_By), (24, S_ref06_Super)]

theorem ok_ref06_At : EnvOk E_ref06_At := okEB.adds (l := _) ⟨c_ref06_By, c_ref06_Super, trivial⟩
theorem t_ref06_At (c : PCore) (size : Int) (a : Int) (n : Int) : evF E_ref06_At 60 128 (encArgs [.core, .i .u32, .i .u32, .i .i64] (c, size, a, n, ())) = Tree.letv (okO [AT.b]) (K.super c) fun x0 => (bif x0 then (bif (decide (And ((0 : Int) ≤ n) (n ≤ (1099511627776 : Int)))) then (Tree.letv (okO [(AT.i IntKind.u32), AT.b]) (K.reloc (0 : Int) size size a n) fun x1 => (bif x1.snd then (Tree.leaf (SV.tup [(SV.v (Value.int IntKind.u32 x1.fst)), (SV.b true)])) else (Tree.leaf (SV.tup [(SV.v (Value.int IntKind.u32 x1.fst)), (SV.b false)])))) else (Tree.fail)) else (bif (decide (And ((0 : Int) ≤ n) (n ≤ (1099511627776 : Int)))) then (Tree.letv (okO [(AT.i IntKind.u32), AT.b]) (K.reloc (List.getD c.csr 5 (0 : Int)) (List.getD c.csr 6 (0 : Int)) size a n) fun x1 => (bif x1.snd then (Tree.leaf (SV.tup [(SV.v (Value.int IntKind.u32 x1.fst)), (SV.b true)])) else (Tree.leaf (SV.tup [(SV.v (Value.int IntKind.u32 x1.fst)), (SV.b false)])))) else (Tree.fail))) := by kernel_rfl
section
attribute [local irreducible] evF evFL evFLs
theorem a_ref06_At (c : PCore) (size : Int) (a : Int) (n : Int) (hpre : 0 ≤ n ∧ n ≤ 1099511627776) (ok_c : okCore c) (ok_size : okI .u32 size) (ok_a : okI .u32 a) (ok_n : okI .i64 n) : (evF E_ref06_At 60 128 (encArgs [.core, .i .u32, .i .u32, .i .i64] (c, size, a, n, ()))).ends fun out_ => decO [.i .u32, .b] out_ = some (K.trans c size a n) := by
  rw [t_ref06_At, Tree.ends_holds]
  simp only [Tree.holds_loop, Tree.holds_fork, Tree.holds_next, if_true, Tree.holds_cond, Tree.holds_letv, Tree.holds_leaf, Tree.holds_fail, decO, decA, decTup, decMach, decCore, decTrap, decInstr, decPart, decGuest, decConf, decEvent, decVcpu, decStep, bytesS, boolS, eventsS, intsS, guestsS, vcpusS, rowS, castL, Option.bind_some, Option.map_some, Option.some.injEq, Nat.beq_refl, beq_self_eq_true, Bool.and_self, cond_true, cond_false, eq_self, beq_iff_eq, beq_eq_false_iff_ne, bne_iff_ne, bne_eq_false_iff_eq, ne_eq, decide_eq_true_eq, decide_eq_false_iff_not, ble_true, ble_false, inRange_iff, inRange_false, K.trans]
  repeat' (first | refine drop_ok ?_ | intro _ | with_reducible apply And.intro)
  all_goals first | omega | (simp_all; done) | (simp_all; apply Prod.ext <;> simp_all; done)
  
theorem c_ref06_At : SpecOk EB 128 S_ref06_At := spec_sig ok_ref06_At (n := 60) fun ⟨c, size, a, n, ⟨⟩⟩ h hok => a_ref06_At c size a n (of_decide_eq_true h) (ok_core (okSL_head hok)) (ok_int (okSL_head (okSL_tail hok))) (ok_int (okSL_head (okSL_tail (okSL_tail hok)))) (ok_int (okSL_head (okSL_tail (okSL_tail (okSL_tail hok)))))
end

/-! ref10_Cell -/

def S_ref10_Cell : Spec := sig [.mach, .i .u32, .i .i64] [.i .u32, .trap] (fun (m, a, n, _) => K.cell m a n) (pre := fun (m, a, n, _) => decide (n = 1 ∨ n = 4))
noncomputable def E_ref10_Cell : Env := EB.adds [(128, S_ref06_At)]

theorem ok_ref10_Cell : EnvOk E_ref10_Cell := okEB.adds (l := _) ⟨c_ref06_At, trivial⟩
theorem t_ref10_Cell (m : PMach) (a : Int) (n : Int) : evF E_ref10_Cell 60 111 (encArgs [.mach, .i .u32, .i .i64] (m, a, n, ())) = bif (BEq.beq n (4 : Int)) then (bif (bne (Int.tmod a (4 : Int)) (0 : Int)) then (Tree.leaf (SV.tup [(SV.v (Value.int IntKind.u32 (0 : Int))), (SV.agg [(SV.v (Value.int IntKind.i64 (4 : Int))), (SV.v (Value.int IntKind.u32 a))])])) else (bif (decide (And ((0 : Int) ≤ n) (n ≤ (1099511627776 : Int)))) then (Tree.letv (okO [(AT.i IntKind.u32), AT.b]) (K.trans m.core (IntKind.wrap IntKind.u32 (Int.ofNat (List.length m.mem))) a n) fun x0 => (bif x0.snd then (Tree.leaf (SV.tup [(SV.v (Value.int IntKind.u32 x0.fst)), (SV.agg [(SV.v (Value.int IntKind.i64 (0 : Int))), (SV.v (Value.int IntKind.u32 (0 : Int)))])])) else (Tree.leaf (SV.tup [(SV.v (Value.int IntKind.u32 (0 : Int))), (SV.agg [(SV.v (Value.int IntKind.i64 (3 : Int))), (SV.v (Value.int IntKind.u32 a))])])))) else (Tree.fail))) else (bif (decide (And ((0 : Int) ≤ n) (n ≤ (1099511627776 : Int)))) then (Tree.letv (okO [(AT.i IntKind.u32), AT.b]) (K.trans m.core (IntKind.wrap IntKind.u32 (Int.ofNat (List.length m.mem))) a n) fun x0 => (bif x0.snd then (Tree.leaf (SV.tup [(SV.v (Value.int IntKind.u32 x0.fst)), (SV.agg [(SV.v (Value.int IntKind.i64 (0 : Int))), (SV.v (Value.int IntKind.u32 (0 : Int)))])])) else (Tree.leaf (SV.tup [(SV.v (Value.int IntKind.u32 (0 : Int))), (SV.agg [(SV.v (Value.int IntKind.i64 (3 : Int))), (SV.v (Value.int IntKind.u32 a))])])))) else (Tree.fail)) := by kernel_rfl
section
attribute [local irreducible] evF evFL evFLs
theorem a_ref10_Cell (m : PMach) (a : Int) (n : Int) (hpre : n = 1 ∨ n = 4) (ok_m : okMach m) (ok_a : okI .u32 a) (ok_n : okI .i64 n) : (evF E_ref10_Cell 60 111 (encArgs [.mach, .i .u32, .i .i64] (m, a, n, ()))).ends fun out_ => decO [.i .u32, .trap] out_ = some (K.cell m a n) := by
  rw [t_ref10_Cell, Tree.ends_holds]
  obtain ⟨a0, a1⟩ := okI_u32 ok_a
  have hn : 1 ≤ n ∧ n ≤ 4 := by omega
  have e2 : Int.tmod a 4 = a % 4 := Int.tmod_eq_emod_of_nonneg a0
  have e3 : IntKind.u32.wrap (m.mem.length : Int) = (m.mem.length : Int) % 4294967296 := wrap32 _
  simp only [Tree.holds_loop, Tree.holds_fork, Tree.holds_next, if_true, Tree.holds_cond, Tree.holds_letv, Tree.holds_leaf, Tree.holds_fail, decO, decA, decTup, decMach, decCore, decTrap, decInstr, decPart, decGuest, decConf, decEvent, decVcpu, decStep, bytesS, boolS, eventsS, intsS, guestsS, vcpusS, rowS, castL, Option.bind_some, Option.map_some, Option.some.injEq, Nat.beq_refl, beq_self_eq_true, Bool.and_self, cond_true, cond_false, eq_self, beq_iff_eq, beq_eq_false_iff_ne, bne_iff_ne, bne_eq_false_iff_eq, ne_eq, decide_eq_true_eq, decide_eq_false_iff_not, ble_true, ble_false, inRange_iff, inRange_false, Int.ofNat_eq_natCast, e2, e3, K.cell]
  rcases hpre with h | h <;> subst h
  · have : a % 1 = 0 := by omega
    repeat' (first | refine drop_ok ?_ | intro _ | with_reducible apply And.intro)
    all_goals first | omega | (simp_all; done)
  · repeat' (first | refine drop_ok ?_ | intro _ | with_reducible apply And.intro)
    all_goals first | omega | (simp_all; done)
  
theorem c_ref10_Cell : SpecOk EB 111 S_ref10_Cell := spec_sig ok_ref10_Cell (n := 60) fun ⟨m, a, n, ⟨⟩⟩ h hok => a_ref10_Cell m a n (of_decide_eq_true h) (ok_mach (okSL_head hok)) (ok_int (okSL_head (okSL_tail hok))) (ok_int (okSL_head (okSL_tail (okSL_tail hok))))
end

/-! ref05_There -/

def S_ref05_There : Spec := sig [.i .i64, .i .u32, .i .i64] [.b] (fun (size, a, n, _) => K.inR size a n) (pre := fun (size, a, n, _) => decide (0 ≤ n ∧ n ≤ 1099511627776 ∧ 0 ≤ size))
noncomputable def E_ref05_There : Env := EB.adds []

theorem ok_ref05_There : EnvOk E_ref05_There := okEB.adds (l := _) trivial
theorem t_ref05_There (size : Int) (a : Int) (n : Int) : evF E_ref05_There 60 53 (encArgs [.i .i64, .i .u32, .i .i64] (size, a, n, ())) = bif (decide ((IntKind.wrap IntKind.i64 a) ≤ (IntKind.wrap IntKind.i64 (size - n)))) then (Tree.leaf (SV.b true)) else (Tree.leaf (SV.b false)) := by kernel_rfl
section
attribute [local irreducible] evF evFL evFLs
theorem a_ref05_There (size : Int) (a : Int) (n : Int) (hpre : 0 ≤ n ∧ n ≤ 1099511627776 ∧ 0 ≤ size) (ok_size : okI .i64 size) (ok_a : okI .u32 a) (ok_n : okI .i64 n) : (evF E_ref05_There 60 53 (encArgs [.i .i64, .i .u32, .i .i64] (size, a, n, ()))).ends fun out_ => decO [.b] out_ = some (K.inR size a n) := by
  rw [t_ref05_There, Tree.ends_holds]
  obtain ⟨a0, a1⟩ := okI_u32 ok_a
  obtain ⟨s0, s1⟩ := okI_i64 ok_size
  have e1 : IntKind.i64.wrap a = a := wrapI64 (by omega) (by omega)
  have e2 : IntKind.i64.wrap (size - n) = size - n := wrapI64 (by omega) (by omega)
  simp only [Tree.holds_loop, Tree.holds_fork, Tree.holds_next, if_true, Tree.holds_cond, Tree.holds_letv, Tree.holds_leaf, Tree.holds_fail, decO, decA, decTup, decMach, decCore, decTrap, decInstr, decPart, decGuest, decConf, decEvent, decVcpu, decStep, bytesS, boolS, eventsS, intsS, guestsS, vcpusS, rowS, castL, Option.bind_some, Option.map_some, Option.some.injEq, Nat.beq_refl, beq_self_eq_true, Bool.and_self, cond_true, cond_false, eq_self, beq_iff_eq, beq_eq_false_iff_ne, bne_iff_ne, bne_eq_false_iff_eq, ne_eq, decide_eq_true_eq, decide_eq_false_iff_not, ble_true, ble_false, inRange_iff, inRange_false, K.inR, e1, e2]
  repeat' (first | refine drop_ok ?_ | intro _ | with_reducible apply And.intro)
  all_goals (simp; omega)
  
theorem c_ref05_There : SpecOk EB 53 S_ref05_There := spec_sig ok_ref05_There (n := 60) fun ⟨size, a, n, ⟨⟩⟩ h hok => a_ref05_There size a n (of_decide_eq_true h) (ok_int (okSL_head hok)) (ok_int (okSL_head (okSL_tail hok))) (ok_int (okSL_head (okSL_tail (okSL_tail hok))))
end

/-! ref05_Load -/

def S_ref05_Load : Spec := sig [.rd .u8, .i .u32, .i .i64] [.i .u32, .b] (fun (m, a, n, _) => if K.inR m.length a n = true then (K.ld m a n, true) else (0, false)) (pre := fun (m, a, n, _) => decide (n = 1 ∨ n = 4))
noncomputable def E_ref05_Load : Env := EB.adds [(53, S_ref05_There)]

theorem ok_ref05_Load : EnvOk E_ref05_Load := okEB.adds (l := _) ⟨c_ref05_There, trivial⟩
theorem t1_c_ref05_Load (m : List Int) (a : Int) : evF E_ref05_Load 60 112 [.rd .u8 m, .v (.int .u32 a), .v (.int .i64 1)] = 
  bif (decide (And ((0 : Int) ≤ (1 : Int)) (And ((1 : Int) ≤ (1099511627776 : Int)) ((0 : Int) ≤ (Int.ofNat (List.length m)))))) then
    (Tree.letv (okO [AT.b]) (K.inR (Int.ofNat (List.length m)) a (1 : Int)) fun x0 =>
    (bif x0 then
      (bif (inRange (IntKind.wrap IntKind.i64 ((IntKind.wrap IntKind.i64 a) + (0 : Int))) (List.length m)) then
        (Tree.leaf (SV.tup [(SV.v (Value.int IntKind.u32 (IntKind.wrap IntKind.u32 ((0 : Int) + (IntKind.wrap IntKind.u32 (List.getD m (Int.toNat (IntKind.wrap IntKind.i64 ((IntKind.wrap IntKind.i64 a) + (0 : Int)))) (0 : Int))))))), (SV.b true)]))
      else
        (Tree.fail))
    else
      (Tree.leaf (SV.tup [(SV.v (Value.int IntKind.u32 (0 : Int))), (SV.b false)]))))
  else
    (Tree.fail) := by kernel_rfl
theorem t4_c_ref05_Load (m : List Int) (a : Int) : evF E_ref05_Load 60 112 [.rd .u8 m, .v (.int .u32 a), .v (.int .i64 4)] = 
  bif (decide (And ((0 : Int) ≤ (4 : Int)) (And ((4 : Int) ≤ (1099511627776 : Int)) ((0 : Int) ≤ (Int.ofNat (List.length m)))))) then
    (Tree.letv (okO [AT.b]) (K.inR (Int.ofNat (List.length m)) a (4 : Int)) fun x0 =>
    (bif x0 then
      (bif (inRange (IntKind.wrap IntKind.i64 ((IntKind.wrap IntKind.i64 a) + (3 : Int))) (List.length m)) then
        (bif (inRange (IntKind.wrap IntKind.i64 ((IntKind.wrap IntKind.i64 a) + (2 : Int))) (List.length m)) then
          (bif (inRange (IntKind.wrap IntKind.i64 ((IntKind.wrap IntKind.i64 a) + (1 : Int))) (List.length m)) then
            (bif (inRange (IntKind.wrap IntKind.i64 ((IntKind.wrap IntKind.i64 a) + (0 : Int))) (List.length m)) then
              (Tree.leaf (SV.tup [(SV.v (Value.int IntKind.u32 (IntKind.wrap IntKind.u32 ((IntKind.wrap IntKind.u32 ((IntKind.wrap IntKind.u32 ((IntKind.wrap IntKind.u32 ((IntKind.wrap IntKind.u32 ((IntKind.wrap IntKind.u32 ((IntKind.wrap IntKind.u32 ((0 : Int) + (IntKind.wrap IntKind.u32 (List.getD m (Int.toNat (IntKind.wrap IntKind.i64 ((IntKind.wrap IntKind.i64 a) + (3 : Int)))) (0 : Int))))) * (256 : Int))) + (IntKind.wrap IntKind.u32 (List.getD m (Int.toNat (IntKind.wrap IntKind.i64 ((IntKind.wrap IntKind.i64 a) + (2 : Int)))) (0 : Int))))) * (256 : Int))) + (IntKind.wrap IntKind.u32 (List.getD m (Int.toNat (IntKind.wrap IntKind.i64 ((IntKind.wrap IntKind.i64 a) + (1 : Int)))) (0 : Int))))) * (256 : Int))) + (IntKind.wrap IntKind.u32 (List.getD m (Int.toNat (IntKind.wrap IntKind.i64 ((IntKind.wrap IntKind.i64 a) + (0 : Int)))) (0 : Int))))))), (SV.b true)]))
            else
              (Tree.fail))
          else
            (Tree.fail))
        else
          (Tree.fail))
      else
        (Tree.fail))
    else
      (Tree.leaf (SV.tup [(SV.v (Value.int IntKind.u32 (0 : Int))), (SV.b false)]))))
  else
    (Tree.fail) := by kernel_rfl
theorem a1_c_ref05_Load (m : List Int) (a : Int) (ok_m : okBytes m) (ok_a : okI .u32 a) : (evF E_ref05_Load 60 112 [.rd .u8 m, .v (.int .u32 a), .v (.int .i64 1)]).ends fun out_ => decO [.i .u32, .b] out_ = some (if K.inR m.length a 1 = true then (K.ld m a 1, true) else (0, false)) := by
  rw [t1_c_ref05_Load, Tree.ends_holds]
  obtain ⟨a0, a1⟩ := okI_u32 ok_a
  have b0 := byte_at ok_m a.toNat
  have ew : IntKind.i64.wrap a = a := wrapI64 (by omega) (by omega)
  have i0 : IntKind.i64.wrap (a + 0) = a := by rw [wrapI64 (by omega) (by omega)]; omega
  have v0 : (0 * 256 % 4294967296 + m.getD a.toNat 0 % 4294967296) % 4294967296 = m.getD a.toNat 0 := by omega
  have v1 : (0 + m.getD a.toNat 0 % 4294967296) % 4294967296 = m.getD a.toNat 0 := by omega
  simp only [Tree.holds_loop, Tree.holds_fork, Tree.holds_next, if_true, Tree.holds_cond, Tree.holds_letv, Tree.holds_leaf, Tree.holds_fail, decO, decA, decTup, decMach, decCore, decTrap, decInstr, decPart, decGuest, decConf, decEvent, decVcpu, decStep, bytesS, boolS, eventsS, intsS, guestsS, vcpusS, rowS, castL, Option.bind_some, Option.map_some, Option.some.injEq, Nat.beq_refl, beq_self_eq_true, Bool.and_self, cond_true, cond_false, eq_self, beq_iff_eq, beq_eq_false_iff_ne, bne_iff_ne, bne_eq_false_iff_eq, ne_eq, decide_eq_true_eq, decide_eq_false_iff_not, ble_true, ble_false, inRange_iff, inRange_false, Int.ofNat_eq_natCast, ew, i0, wrap32, v0, v1]
  repeat' (first | refine drop_ok ?_ | intro _ | with_reducible apply And.intro)
  all_goals first | (rw [if_pos (by assumption)]; first | rfl | (congr 2; done) | (simp [K.ld]; omega)) | (rw [if_neg (by simp_all)]) | omega | (simp_all [K.inR]; omega)
theorem a4_c_ref05_Load (m : List Int) (a : Int) (ok_m : okBytes m) (ok_a : okI .u32 a) : (evF E_ref05_Load 60 112 [.rd .u8 m, .v (.int .u32 a), .v (.int .i64 4)]).ends fun out_ => decO [.i .u32, .b] out_ = some (if K.inR m.length a 4 = true then (K.ld m a 4, true) else (0, false)) := by
  rw [t4_c_ref05_Load, Tree.ends_holds]
  obtain ⟨a0, a1⟩ := okI_u32 ok_a
  have ew : IntKind.i64.wrap a = a := wrapI64 (by omega) (by omega)
  have i0 : IntKind.i64.wrap (a + 0) = a := by rw [wrapI64 (by omega) (by omega)]; omega
  have i1 : IntKind.i64.wrap (a + 1) = a + 1 := wrapI64 (by omega) (by omega)
  have i2 : IntKind.i64.wrap (a + 2) = a + 2 := wrapI64 (by omega) (by omega)
  have i3 : IntKind.i64.wrap (a + 3) = a + 3 := wrapI64 (by omega) (by omega)
  have n1 : (a + 1).toNat = a.toNat + 1 := by omega
  have n2 : (a + 2).toNat = a.toNat + 2 := by omega
  have n3 : (a + 3).toNat = a.toNat + 3 := by omega
  obtain ⟨p0, q0⟩ := byte_at ok_m a.toNat
  obtain ⟨p1, q1⟩ := byte_at ok_m (a.toNat + 1)
  obtain ⟨p2, q2⟩ := byte_at ok_m (a.toNat + 2)
  obtain ⟨p3, q3⟩ := byte_at ok_m (a.toNat + 3)
  have fin : ∀ x : Int, x = m.getD a.toNat 0 + 256 * m.getD (a.toNat + 1) 0 + 65536 * m.getD (a.toNat + 2) 0 + 16777216 * m.getD (a.toNat + 3) 0 → (x, true) = (K.ld m a 4, true) := fun x h => by rw [h]; rfl
  simp only [Tree.holds_loop, Tree.holds_fork, Tree.holds_next, if_true, Tree.holds_cond, Tree.holds_letv, Tree.holds_leaf, Tree.holds_fail, decO, decA, decTup, decMach, decCore, decTrap, decInstr, decPart, decGuest, decConf, decEvent, decVcpu, decStep, bytesS, boolS, eventsS, intsS, guestsS, vcpusS, rowS, castL, Option.bind_some, Option.map_some, Option.some.injEq, Nat.beq_refl, beq_self_eq_true, Bool.and_self, cond_true, cond_false, eq_self, beq_iff_eq, beq_eq_false_iff_ne, bne_iff_ne, bne_eq_false_iff_eq, ne_eq, decide_eq_true_eq, decide_eq_false_iff_not, ble_true, ble_false, inRange_iff, inRange_false, Int.ofNat_eq_natCast, ew, i0, i1, i2, i3, n1, n2, n3, wrap32]
  repeat' (first | refine drop_ok ?_ | intro _ | with_reducible apply And.intro)
  all_goals first | (rw [if_pos (by assumption)]; apply fin; omega) | (rw [if_neg (by simp_all)]) | omega | (simp_all [K.inR]; omega)
theorem c_ref05_Load : SpecOk EB 112 S_ref05_Load := spec_sig ok_ref05_Load (n := 60) fun ⟨m, a, n, ⟨⟩⟩ h hok => by
  have h := of_decide_eq_true h
  have o1 := ok_bytes (okSL_head hok)
  have o2 := ok_int (okSL_head (okSL_tail hok))
  rcases h with h | h
  · have h : n = 1 := h
    subst h; exact a1_c_ref05_Load m a o1 o2
  · have h : n = 4 := h
    subst h; exact a4_c_ref05_Load m a o1 o2

/-! ref10_Load -/

def S_ref10_Load : Spec := sig [.mach, .i .u32, .i .i64] [.i .u32, .trap] (fun (m, a, n, _) => K.load m a n) (pre := fun (m, a, n, _) => decide (n = 1 ∨ n = 4))
noncomputable def E_ref10_Load : Env := EB.adds [(111, S_ref10_Cell), (112, S_ref05_Load)]

theorem ok_ref10_Load : EnvOk E_ref10_Load := okEB.adds (l := _) ⟨c_ref10_Cell, c_ref05_Load, trivial⟩
theorem t_ref10_Load (m : PMach) (a : Int) (n : Int) : evF E_ref10_Load 60 78 (encArgs [.mach, .i .u32, .i .i64] (m, a, n, ())) = bif (decide (Or (n = (1 : Int)) (n = (4 : Int)))) then (Tree.letv (okO [(AT.i IntKind.u32), AT.trap]) (K.cell m a n) fun x0 => (bif (bne x0.snd.cause (0 : Int)) then (Tree.leaf (SV.tup [(SV.v (Value.int IntKind.u32 (0 : Int))), (SV.agg [(SV.v (Value.int IntKind.i64 x0.snd.cause)), (SV.v (Value.int IntKind.u32 x0.snd.tval))])])) else (bif (decide (Or (n = (1 : Int)) (n = (4 : Int)))) then (Tree.letv (okO [(AT.i IntKind.u32), AT.b]) (if ((K.inR (Int.ofNat (List.length m.mem)) x0.fst n) = true) then ((K.ld m.mem x0.fst n), true) else ((0 : Int), false)) fun x1 => (bif x1.snd then (Tree.leaf (SV.tup [(SV.v (Value.int IntKind.u32 x1.fst)), (SV.agg [(SV.v (Value.int IntKind.i64 x0.snd.cause)), (SV.v (Value.int IntKind.u32 x0.snd.tval))])])) else (Tree.leaf (SV.tup [(SV.v (Value.int IntKind.u32 x1.fst)), (SV.agg [(SV.v (Value.int IntKind.i64 x0.snd.cause)), (SV.v (Value.int IntKind.u32 x0.snd.tval))])])))) else (Tree.fail)))) else (Tree.fail) := by kernel_rfl
section
attribute [local irreducible] evF evFL evFLs
theorem a_ref10_Load (m : PMach) (a : Int) (n : Int) (hpre : n = 1 ∨ n = 4) (ok_m : okMach m) (ok_a : okI .u32 a) (ok_n : okI .i64 n) : (evF E_ref10_Load 60 78 (encArgs [.mach, .i .u32, .i .i64] (m, a, n, ()))).ends fun out_ => decO [.i .u32, .trap] out_ = some (K.load m a n) := by
  rw [t_ref10_Load, Tree.ends_holds]
  obtain ⟨a0, a1⟩ := okI_u32 ok_a
  have hr := fun h => cell_range ok_m.core (a := a) (n := n) a0 (by omega) h
  simp only [Tree.holds_loop, Tree.holds_fork, Tree.holds_next, if_true, Tree.holds_cond, Tree.holds_letv, Tree.holds_leaf, Tree.holds_fail, decO, decA, decTup, decMach, decCore, decTrap, decInstr, decPart, decGuest, decConf, decEvent, decVcpu, decStep, bytesS, boolS, eventsS, intsS, guestsS, vcpusS, rowS, castL, Option.bind_some, Option.map_some, Option.some.injEq, Nat.beq_refl, beq_self_eq_true, Bool.and_self, cond_true, cond_false, eq_self, beq_iff_eq, beq_eq_false_iff_ne, bne_iff_ne, bne_eq_false_iff_eq, ne_eq, decide_eq_true_eq, decide_eq_false_iff_not, ble_true, ble_false, inRange_iff, inRange_false, Int.ofNat_eq_natCast, K.load]
  by_cases h : (K.cell m a n).2.cause = 0
  · have ht := cell_zero h
    have hi : K.inR m.mem.length (K.cell m a n).1 n = true := by have := hr h; simp only [K.inR, decide_eq_true_eq]; omega
    simp only [h, ht, hi, if_true]
    simp [hpre]
  · simp [h, hpre]
  
theorem c_ref10_Load : SpecOk EB 78 S_ref10_Load := spec_sig ok_ref10_Load (n := 60) fun ⟨m, a, n, ⟨⟩⟩ h hok => a_ref10_Load m a n (of_decide_eq_true h) (ok_mach (okSL_head hok)) (ok_int (okSL_head (okSL_tail hok))) (ok_int (okSL_head (okSL_tail (okSL_tail hok))))
end

/-! ref01_Sign -/

def S_ref01_Sign : Spec := sig [.i .u32, .i .i64] [.i .i32] (fun (v, n, _) => K.sext v) (pre := fun (v, n, _) => decide (n = 18))
noncomputable def E_ref01_Sign : Env := EB.adds [(76, S_ref01_Field), (92, S_ref01_Pow)]

theorem ok_ref01_Sign : EnvOk E_ref01_Sign := okEB.adds (l := _) ⟨c_ref01_Field, c_ref01_Pow, trivial⟩
theorem t_ref01_Sign (v : Int) (n : Int) : evF E_ref01_Sign 60 113 (encArgs [.i .u32, .i .i64] (v, n, ())) = bif (decide (And ((0 : Int) ≤ (63 : Int)) (n ≤ (63 : Int)))) then (Tree.letv (okO [(AT.i IntKind.u32)]) (K.field v (0 : Int) n) fun x0 => (bif (decide ((IntKind.wrap IntKind.i64 (n - (1 : Int))) ≤ (63 : Int))) then (Tree.letv (okO [(AT.i IntKind.u64)]) (K.pow (IntKind.wrap IntKind.i64 (n - (1 : Int)))) fun x1 => (bif (decide ((IntKind.wrap IntKind.i64 x0) ≥ (IntKind.wrap IntKind.i64 x1))) then (bif (decide (n ≤ (63 : Int))) then (Tree.letv (okO [(AT.i IntKind.u64)]) (K.pow n) fun x2 => (Tree.leaf (SV.v (Value.int IntKind.i32 (IntKind.wrap IntKind.i32 (IntKind.wrap IntKind.i64 ((IntKind.wrap IntKind.i64 x0) - (IntKind.wrap IntKind.i64 x2)))))))) else (Tree.fail)) else (Tree.leaf (SV.v (Value.int IntKind.i32 (IntKind.wrap IntKind.i32 (IntKind.wrap IntKind.i64 x0))))))) else (Tree.fail))) else (Tree.fail) := by kernel_rfl
section
attribute [local irreducible] evF evFL evFLs
theorem a_ref01_Sign (v : Int) (n : Int) (hpre : n = 18) (ok_v : okI .u32 v) (ok_n : okI .i64 n) : (evF E_ref01_Sign 60 113 (encArgs [.i .u32, .i .i64] (v, n, ()))).ends fun out_ => decO [.i .i32] out_ = some (K.sext v) := by
  rw [t_ref01_Sign, Tree.ends_holds]
  obtain ⟨v0, v1⟩ := okI_u32 ok_v
  subst hpre
  have e1 : K.field v 0 18 = v % 262144 := by simp [K.field, K.pow]
  have e2 : IntKind.i64.wrap (v % 262144) = v % 262144 := wrapI64 (by omega) (by omega)
  have e3 : IntKind.i64.wrap (K.pow (IntKind.i64.wrap (18 - 1))) = 131072 := by decide
  have e4 : IntKind.i64.wrap (K.pow 18) = 262144 := by decide
  have e5 : decide (IntKind.i64.wrap (18 - 1) ≤ 63) = true := by decide
  have e6 : IntKind.i64.wrap (v % 262144 - 262144) = v % 262144 - 262144 := wrapI64 (by omega) (by omega)
  have e7 : IntKind.i32.wrap (v % 262144) = v % 262144 := wrapI32 (by omega) (by omega)
  have e8 : IntKind.i32.wrap (v % 262144 - 262144) = v % 262144 - 262144 := wrapI32 (by omega) (by omega)
  simp only [Tree.holds_loop, Tree.holds_fork, Tree.holds_next, if_true, Tree.holds_cond, Tree.holds_letv, Tree.holds_leaf, Tree.holds_fail, decO, decA, decTup, decMach, decCore, decTrap, decInstr, decPart, decGuest, decConf, decEvent, decVcpu, decStep, bytesS, boolS, eventsS, intsS, guestsS, vcpusS, rowS, castL, Option.bind_some, Option.map_some, Option.some.injEq, Nat.beq_refl, beq_self_eq_true, Bool.and_self, cond_true, cond_false, eq_self, beq_iff_eq, beq_eq_false_iff_ne, bne_iff_ne, bne_eq_false_iff_eq, ne_eq, decide_eq_true_eq, decide_eq_false_iff_not, ble_true, ble_false, inRange_iff, inRange_false, e1, e2, e3, e4, e5, e6, e7, e8, K.sext]
  repeat' (first | refine drop_ok ?_ | intro _ | with_reducible apply And.intro)
  all_goals first | omega | (simp_all; done) | (simp_all; omega)
  
theorem c_ref01_Sign : SpecOk EB 113 S_ref01_Sign := spec_sig ok_ref01_Sign (n := 60) fun ⟨v, n, ⟨⟩⟩ h hok => a_ref01_Sign v n (of_decide_eq_true h) (ok_int (okSL_head hok)) (ok_int (okSL_head (okSL_tail hok)))
end

/-! ref02_Decode -/

def S_ref02_Decode : Spec := sig [.i .u32] [.instr, .b] (fun (w, _) => K.decode w)
noncomputable def E_ref02_Decode : Env := EB.adds [(52, S_ref02_Form), (113, S_ref01_Sign), (25, S_ref02_Encode)]

theorem ok_ref02_Decode : EnvOk E_ref02_Decode := okEB.adds (l := _) ⟨c_ref02_Form, c_ref01_Sign, c_ref02_Encode, trivial⟩
theorem t_ref02_Decode (w : Int) : evF E_ref02_Decode 60 79 (encArgs [.i .u32] (w, ())) = Tree.letv (okO [(AT.i IntKind.i64)]) (K.form (IntKind.wrap IntKind.i64 (IntKind.wrap IntKind.u32 (Int.tdiv w (67108864 : Int))))) fun x0 => (bif (BEq.beq x0 (1 : Int)) then (Tree.letv (okO [(AT.i IntKind.u32), AT.b]) (K.encode (PInstr.mk (IntKind.wrap IntKind.i64 (IntKind.wrap IntKind.u32 (Int.tdiv w (67108864 : Int)))) (IntKind.wrap IntKind.i64 (Int.tmod (IntKind.wrap IntKind.u32 (Int.tdiv w (4194304 : Int))) (16 : Int))) (IntKind.wrap IntKind.i64 (Int.tmod (IntKind.wrap IntKind.u32 (Int.tdiv w (262144 : Int))) (16 : Int))) (IntKind.wrap IntKind.i64 (Int.tmod w (16 : Int))) (0 : Int))) fun x1 => (bif x1.snd then (bif (bne x1.fst w) then (Tree.leaf (SV.tup [(SV.agg [(SV.v (Value.int IntKind.i64 (0 : Int))), (SV.v (Value.int IntKind.i64 (0 : Int))), (SV.v (Value.int IntKind.i64 (0 : Int))), (SV.v (Value.int IntKind.i64 (0 : Int))), (SV.v (Value.int IntKind.i32 (0 : Int)))]), (SV.b false)])) else (Tree.leaf (SV.tup [(SV.agg [(SV.v (Value.int IntKind.i64 (IntKind.wrap IntKind.i64 (IntKind.wrap IntKind.u32 (Int.tdiv w (67108864 : Int)))))), (SV.v (Value.int IntKind.i64 (IntKind.wrap IntKind.i64 (Int.tmod (IntKind.wrap IntKind.u32 (Int.tdiv w (4194304 : Int))) (16 : Int))))), (SV.v (Value.int IntKind.i64 (IntKind.wrap IntKind.i64 (Int.tmod (IntKind.wrap IntKind.u32 (Int.tdiv w (262144 : Int))) (16 : Int))))), (SV.v (Value.int IntKind.i64 (IntKind.wrap IntKind.i64 (Int.tmod w (16 : Int))))),
 (SV.v (Value.int IntKind.i32 (0 : Int)))]), (SV.b true)]))) else (Tree.leaf (SV.tup [(SV.agg [(SV.v (Value.int IntKind.i64 (0 : Int))), (SV.v (Value.int IntKind.i64 (0 : Int))), (SV.v (Value.int IntKind.i64 (0 : Int))), (SV.v (Value.int IntKind.i64 (0 : Int))), (SV.v (Value.int IntKind.i32 (0 : Int)))]), (SV.b false)])))) else (Tree.letv (okO [(AT.i IntKind.i32)]) (K.sext w) fun x1 => (Tree.letv (okO [(AT.i IntKind.u32), AT.b]) (K.encode (PInstr.mk (IntKind.wrap IntKind.i64 (IntKind.wrap IntKind.u32 (Int.tdiv w (67108864 : Int)))) (IntKind.wrap IntKind.i64 (Int.tmod (IntKind.wrap IntKind.u32 (Int.tdiv w (4194304 : Int))) (16 : Int))) (IntKind.wrap IntKind.i64 (Int.tmod (IntKind.wrap IntKind.u32 (Int.tdiv w (262144 : Int))) (16 : Int))) (0 : Int) x1)) fun x2 => (bif x2.snd then (bif (bne x2.fst w) then (Tree.leaf (SV.tup [(SV.agg [(SV.v (Value.int IntKind.i64 (0 : Int))), (SV.v (Value.int IntKind.i64 (0 : Int))), (SV.v (Value.int IntKind.i64 (0 : Int))), (SV.v (Value.int IntKind.i64 (0 : Int))), (SV.v (Value.int IntKind.i32 (0 : Int)))]), (SV.b false)])) else (Tree.leaf (SV.tup [(SV.agg [(SV.v (Value.int IntKind.i64 (IntKind.wrap IntKind.i64 (IntKind.wrap IntKind.u32 (Int.tdiv w (67108864 : Int)))))), (SV.v (Value.int IntKind.i64 (IntKind.wrap IntKind.i64 (Int.tmod (IntKind.wrap IntKind.u32 (Int.tdiv w (4194304 : Int))) (16 : Int))))), (SV.v (Value.int IntKind.i64 (IntKind.wrap IntKind.i64 (Int.tmod (IntKind.wrap IntKind.u32 (Int.tdiv w (262144 : Int))) (16 : Int))))), (SV.v
 (Value.int IntKind.i64 (0 : Int))), (SV.v (Value.int IntKind.i32 x1))]), (SV.b true)]))) else (Tree.leaf (SV.tup [(SV.agg [(SV.v (Value.int IntKind.i64 (0 : Int))), (SV.v (Value.int IntKind.i64 (0 : Int))), (SV.v (Value.int IntKind.i64 (0 : Int))), (SV.v (Value.int IntKind.i64 (0 : Int))), (SV.v (Value.int IntKind.i32 (0 : Int)))]), (SV.b false)])))))) := by kernel_rfl
section
attribute [local irreducible] evF evFL evFLs
theorem a_ref02_Decode (w : Int) (ok_w : okI .u32 w) : (evF E_ref02_Decode 60 79 (encArgs [.i .u32] (w, ()))).ends fun out_ => decO [.instr, .b] out_ = some (K.decode w) := by
  rw [t_ref02_Decode, Tree.ends_holds]
  obtain ⟨w0, w1⟩ := okI_u32 ok_w
  have t1 : IntKind.u32.wrap (Int.tdiv w 67108864) = w / 67108864 := by rw [Int.tdiv_eq_ediv_of_nonneg w0, wrap32]; omega
  have t2 : Int.tmod (IntKind.u32.wrap (Int.tdiv w 4194304)) 16 = w / 4194304 % 16 := by rw [Int.tdiv_eq_ediv_of_nonneg w0, wrap32, Int.tmod_eq_emod_of_nonneg (by omega)]; omega
  have t3 : Int.tmod (IntKind.u32.wrap (Int.tdiv w 262144)) 16 = w / 262144 % 16 := by rw [Int.tdiv_eq_ediv_of_nonneg w0, wrap32, Int.tmod_eq_emod_of_nonneg (by omega)]; omega
  have t4 : Int.tmod w 16 = w % 16 := Int.tmod_eq_emod_of_nonneg w0
  have i1 : IntKind.i64.wrap (w / 67108864) = w / 67108864 := wrapI64 (by omega) (by omega)
  have i2 : IntKind.i64.wrap (w / 4194304 % 16) = w / 4194304 % 16 := wrapI64 (by omega) (by omega)
  have i3 : IntKind.i64.wrap (w / 262144 % 16) = w / 262144 % 16 := wrapI64 (by omega) (by omega)
  have i4 : IntKind.i64.wrap (w % 16) = w % 16 := wrapI64 (by omega) (by omega)
  have g1 : K.form (w / 67108864) = 1 → (⟨w / 67108864, w / 4194304 % 16, w / 262144 % 16, w % 16, 0⟩ : PInstr) = K.splitW w := fun h => by simp [K.splitW, h]
  have g2 : K.form (w / 67108864) ≠ 1 → (⟨w / 67108864, w / 4194304 % 16, w / 262144 % 16, 0, K.sext w⟩ : PInstr) = K.splitW w := fun h => by simp [K.splitW, h]
  have d1 : (K.encode (K.splitW w)).2 = true → (K.encode (K.splitW w)).1 = w → K.decode w = (K.splitW w, true) := fun h1 h2 => by
    unfold K.encode at h1 h2
    by_cases hm : K.may (K.splitW w) = true
    · rw [if_pos hm] at h2; unfold K.decode; rw [if_pos ⟨hm, h2⟩]
    · rw [if_neg hm] at h1; simp at h1
  have d2 : ¬ ((K.encode (K.splitW w)).2 = true ∧ (K.encode (K.splitW w)).1 = w) → K.decode w = (⟨0, 0, 0, 0, 0⟩, false) := fun h => by
    unfold K.encode at h
    unfold K.decode
    rw [if_neg]
    rintro ⟨h1, h2⟩
    rw [if_pos h1] at h; exact h ⟨rfl, h2⟩
  simp only [Tree.holds_loop, Tree.holds_fork, Tree.holds_next, if_true, Tree.holds_cond, Tree.holds_letv, Tree.holds_leaf, Tree.holds_fail, decO, decA, decTup, decMach, decCore, decTrap, decInstr, decPart, decGuest, decConf, decEvent, decVcpu, decStep, bytesS, boolS, eventsS, intsS, guestsS, vcpusS, rowS, castL, Option.bind_some, Option.map_some, Option.some.injEq, Nat.beq_refl, beq_self_eq_true, Bool.and_self, cond_true, cond_false, eq_self, beq_iff_eq, beq_eq_false_iff_ne, bne_iff_ne, bne_eq_false_iff_eq, ne_eq, decide_eq_true_eq, decide_eq_false_iff_not, ble_true, ble_false, inRange_iff, inRange_false, t1, t2, t3, t4, i1, i2, i3, i4]
  have fin : ∀ i, i = K.splitW w → (okO [AT.i IntKind.u32, AT.b] (K.encode i) → ((K.encode i).2 = true → (¬ (K.encode i).1 = w → ((⟨0, 0, 0, 0, 0⟩ : PInstr), false) = K.decode w) ∧ ((K.encode i).1 = w → (i, true) = K.decode w)) ∧ ((K.encode i).2 = false → ((⟨0, 0, 0, 0, 0⟩ : PInstr), false) = K.decode w)) := fun i hi _ => by
    subst hi
    exact ⟨fun a => ⟨fun b => (d2 fun c => b c.2).symm, fun b => (d1 a b).symm⟩, fun a => (d2 fun c => by rw [a] at c; exact absurd c.1 (by simp)).symm⟩
  clear d1 d2 t1 t2 t3 t4 i1 i2 i3 i4
  intro _
  by_cases hf : K.form (w / 67108864) = 1
  · simp only [hf]; simp; first | simpa using fin _ (g1 hf) | exact fun _ => by simpa using fin _ (g1 hf)
  · simp only [hf]; simp; first | simpa using fin _ (g2 hf) | exact fun _ => by simpa using fin _ (g2 hf)
  
theorem c_ref02_Decode : SpecOk EB 79 S_ref02_Decode := spec_sig ok_ref02_Decode (n := 60) fun ⟨w, ⟨⟩⟩ h hok => a_ref02_Decode w (ok_int (okSL_head hok))
end

/-! ref02_Privileged -/

def S_ref02_Privileged : Spec := sig [.i .i64] [.b] (fun (op, _) => K.privd op)
noncomputable def E_ref02_Privileged : Env := EB.adds []

theorem ok_ref02_Privileged : EnvOk E_ref02_Privileged := okEB.adds (l := _) trivial
theorem t_ref02_Privileged (op : Int) : evF E_ref02_Privileged 60 47 (encArgs [.i .i64] (op, ())) = bif (BEq.beq op (21 : Int)) then (Tree.leaf (SV.b true)) else (bif (BEq.beq op (22 : Int)) then (Tree.leaf (SV.b true)) else (bif (BEq.beq op (23 : Int)) then (Tree.leaf (SV.b true)) else (bif (BEq.beq op (24 : Int)) then (Tree.leaf (SV.b true)) else (bif (BEq.beq op (25 : Int)) then (Tree.leaf (SV.b true)) else (Tree.leaf (SV.b false)))))) := by kernel_rfl
section
attribute [local irreducible] evF evFL evFLs
theorem a_ref02_Privileged (op : Int) (ok_op : okI .i64 op) : (evF E_ref02_Privileged 60 47 (encArgs [.i .i64] (op, ()))).ends fun out_ => decO [.b] out_ = some (K.privd op) := by
  rw [t_ref02_Privileged, Tree.ends_holds]
  simp only [Tree.holds_loop, Tree.holds_fork, Tree.holds_next, if_true, Tree.holds_cond, Tree.holds_letv, Tree.holds_leaf, Tree.holds_fail, decO, decA, decTup, decMach, decCore, decTrap, decInstr, decPart, decGuest, decConf, decEvent, decVcpu, decStep, bytesS, boolS, eventsS, intsS, guestsS, vcpusS, rowS, castL, Option.bind_some, Option.map_some, Option.some.injEq, Nat.beq_refl, beq_self_eq_true, Bool.and_self, cond_true, cond_false, eq_self, beq_iff_eq, beq_eq_false_iff_ne, bne_iff_ne, bne_eq_false_iff_eq, ne_eq, decide_eq_true_eq, decide_eq_false_iff_not, ble_true, ble_false, inRange_iff, inRange_false, K.privd]
  repeat' (first | refine drop_ok ?_ | intro _ | with_reducible apply And.intro)
  all_goals first | (subst_vars; rfl) | (have : ¬ (21 ≤ op ∧ op ≤ 25) := by omega
                                         by_cases h : 21 ≤ op <;> simp <;> omega)
  
theorem c_ref02_Privileged : SpecOk EB 47 S_ref02_Privileged := spec_sig ok_ref02_Privileged (n := 60) fun ⟨op, ⟨⟩⟩ h hok => a_ref02_Privileged op (ok_int (okSL_head hok))
end

/-! ref13_Now -/

def S_ref13_Now : Spec := sig [.mach] [.instr, .trap] (fun (m, _) => K.cur m)
noncomputable def E_ref13_Now : Env := EB.adds [(78, S_ref10_Load), (79, S_ref02_Decode), (47, S_ref02_Privileged), (24, S_ref06_Super)]

theorem ok_ref13_Now : EnvOk E_ref13_Now := okEB.adds (l := _) ⟨c_ref10_Load, c_ref02_Decode, c_ref02_Privileged, c_ref06_Super, trivial⟩
theorem t_ref13_Now (m : PMach) : evF E_ref13_Now 60 46 (encArgs [.mach] (m, ())) = Tree.letv (okO [(AT.i IntKind.u32), AT.trap]) (K.load m m.core.pc (4 : Int)) fun x0 => (bif (bne x0.snd.cause (0 : Int)) then (Tree.leaf (SV.tup [(SV.agg [(SV.v (Value.int IntKind.i64 (0 : Int))), (SV.v (Value.int IntKind.i64 (0 : Int))), (SV.v (Value.int IntKind.i64 (0 : Int))), (SV.v (Value.int IntKind.i64 (0 : Int))), (SV.v (Value.int IntKind.i32 (0 : Int)))]), (SV.agg [(SV.v (Value.int IntKind.i64 x0.snd.cause)), (SV.v (Value.int IntKind.u32 x0.snd.tval))])])) else (Tree.letv (okO [AT.instr, AT.b]) (K.decode x0.fst) fun x1 => (bif x1.snd then (Tree.letv (okO [AT.b]) (K.privd x1.fst.op) fun x2 => (bif x2 then (Tree.letv (okO [AT.b]) (K.super m.core) fun x3 => (bif x3 then (Tree.leaf (SV.tup [(SV.agg [(SV.v (Value.int IntKind.i64 x1.fst.op)), (SV.v (Value.int IntKind.i64 x1.fst.rd)), (SV.v (Value.int IntKind.i64 x1.fst.ra)), (SV.v (Value.int IntKind.i64 x1.fst.rb)), (SV.v (Value.int IntKind.i32 x1.fst.imm))]), (SV.agg [(SV.v (Value.int IntKind.i64 x0.snd.cause)), (SV.v (Value.int IntKind.u32 x0.snd.tval))])])) else (Tree.leaf (SV.tup [(SV.agg [(SV.v (Value.int IntKind.i64 (0 : Int))), (SV.v (Value.int IntKind.i64 (0 : Int))), (SV.v (Value.int IntKind.i64 (0 : Int))), (SV.v (Value.int IntKind.i64 (0 : Int))), (SV.v (Value.int IntKind.i32 (0 : Int)))]), (SV.agg [(SV.v (Value.int IntKind.i64 (2 : Int))), (SV.v (Value.int IntKind.u32 x0.fst))])])))) else (Tree.leaf (SV.tup [(SV.agg [(SV.v
 (Value.int IntKind.i64 x1.fst.op)), (SV.v (Value.int IntKind.i64 x1.fst.rd)), (SV.v (Value.int IntKind.i64 x1.fst.ra)), (SV.v (Value.int IntKind.i64 x1.fst.rb)), (SV.v (Value.int IntKind.i32 x1.fst.imm))]), (SV.agg [(SV.v (Value.int IntKind.i64 x0.snd.cause)), (SV.v (Value.int IntKind.u32 x0.snd.tval))])])))) else (Tree.leaf (SV.tup [(SV.agg [(SV.v (Value.int IntKind.i64 x1.fst.op)), (SV.v (Value.int IntKind.i64 x1.fst.rd)), (SV.v (Value.int IntKind.i64 x1.fst.ra)), (SV.v (Value.int IntKind.i64 x1.fst.rb)), (SV.v (Value.int IntKind.i32 x1.fst.imm))]), (SV.agg [(SV.v (Value.int IntKind.i64 (1 : Int))), (SV.v (Value.int IntKind.u32 x0.fst))])]))))) := by kernel_rfl
section
attribute [local irreducible] evF evFL evFLs
theorem a_ref13_Now (m : PMach) (ok_m : okMach m) : (evF E_ref13_Now 60 46 (encArgs [.mach] (m, ()))).ends fun out_ => decO [.instr, .trap] out_ = some (K.cur m) := by
  rw [t_ref13_Now, Tree.ends_holds]
  have lz := fun a n => load_zero (m := m) (a := a) (n := n)
  have dz := fun w => decode_none (w := w)
  simp only [Tree.holds_loop, Tree.holds_fork, Tree.holds_next, if_true, Tree.holds_cond, Tree.holds_letv, Tree.holds_leaf, Tree.holds_fail, decO, decA, decTup, decMach, decCore, decTrap, decInstr, decPart, decGuest, decConf, decEvent, decVcpu, decStep, bytesS, boolS, eventsS, intsS, guestsS, vcpusS, rowS, castL, Option.bind_some, Option.map_some, Option.some.injEq, Nat.beq_refl, beq_self_eq_true, Bool.and_self, cond_true, cond_false, eq_self, beq_iff_eq, beq_eq_false_iff_ne, bne_iff_ne, bne_eq_false_iff_eq, ne_eq, decide_eq_true_eq, decide_eq_false_iff_not, ble_true, ble_false, inRange_iff, inRange_false]
  unfold K.cur
  repeat' (first | refine drop_ok ?_ | intro _ | with_reducible apply And.intro)
  all_goals first | omega | (simp_all; done) | (rw [dz _ (by assumption)]; simp_all; done) | trace_state
  
theorem c_ref13_Now : SpecOk EB 46 S_ref13_Now := spec_sig ok_ref13_Now (n := 60) fun ⟨m, ⟨⟩⟩ h hok => a_ref13_Now m (ok_mach (okSL_head hok))
end

/-! ref07_Get -/

def S_ref07_Get : Spec := sig [.a .u32 16, .i .i64] [.i .u32] (fun (r, i, _) => K.get r i)
noncomputable def E_ref07_Get : Env := EB.adds []

theorem ok_ref07_Get : EnvOk E_ref07_Get := okEB.adds (l := _) trivial
theorem t_ref07_Get (r : List Int) (i : Int) : evF E_ref07_Get 60 80 (encArgs [.a .u32 16, .i .i64] (r, i, ())) = bif (BEq.beq (1 : Int) i) then (Tree.leaf (SV.v (Value.int IntKind.u32 (List.getD r 1 (0 : Int))))) else (bif (BEq.beq (2 : Int) i) then (Tree.leaf (SV.v (Value.int IntKind.u32 (List.getD r 2 (0 : Int))))) else (bif (BEq.beq (3 : Int) i) then (Tree.leaf (SV.v (Value.int IntKind.u32 (List.getD r 3 (0 : Int))))) else (bif (BEq.beq (4 : Int) i) then (Tree.leaf (SV.v (Value.int IntKind.u32 (List.getD r 4 (0 : Int))))) else (bif (BEq.beq (5 : Int) i) then (Tree.leaf (SV.v (Value.int IntKind.u32 (List.getD r 5 (0 : Int))))) else (bif (BEq.beq (6 : Int) i) then (Tree.leaf (SV.v (Value.int IntKind.u32 (List.getD r 6 (0 : Int))))) else (bif (BEq.beq (7 : Int) i) then (Tree.leaf (SV.v (Value.int IntKind.u32 (List.getD r 7 (0 : Int))))) else (bif (BEq.beq (8 : Int) i) then (Tree.leaf (SV.v (Value.int IntKind.u32 (List.getD r 8 (0 : Int))))) else (bif (BEq.beq (9 : Int) i) then (Tree.leaf (SV.v (Value.int IntKind.u32 (List.getD r 9 (0 : Int))))) else (bif (BEq.beq (10 : Int) i) then (Tree.leaf (SV.v (Value.int IntKind.u32 (List.getD r 10 (0 : Int))))) else (bif (BEq.beq (11 : Int) i) then (Tree.leaf (SV.v (Value.int IntKind.u32 (List.getD r 11 (0 : Int))))) else (bif (BEq.beq (12 : Int) i) then (Tree.leaf (SV.v (Value.int IntKind.u32 (List.getD r 12 (0 : Int))))) else (bif (BEq.beq (13 : Int) i) then (Tree.leaf (SV.v (Value.int IntKind.u32 (List.getD r 13 (0 : Int))))) else
 (bif (BEq.beq (14 : Int) i) then (Tree.leaf (SV.v (Value.int IntKind.u32 (List.getD r 14 (0 : Int))))) else (bif (BEq.beq (15 : Int) i) then (Tree.leaf (SV.v (Value.int IntKind.u32 (List.getD r 15 (0 : Int))))) else (Tree.leaf (SV.v (Value.int IntKind.u32 (0 : Int)))))))))))))))))) := by kernel_rfl
section
attribute [local irreducible] evF evFL evFLs
theorem a_ref07_Get (r : List Int) (i : Int) (ok_r : okL .u32 16 r) (ok_i : okI .i64 i) : (evF E_ref07_Get 60 80 (encArgs [.a .u32 16, .i .i64] (r, i, ()))).ends fun out_ => decO [.i .u32] out_ = some (K.get r i) := by
  rw [t_ref07_Get, Tree.ends_holds]
  simp only [Tree.holds_loop, Tree.holds_fork, Tree.holds_next, if_true, Tree.holds_cond, Tree.holds_letv, Tree.holds_leaf, Tree.holds_fail, decO, decA, decTup, decMach, decCore, decTrap, decInstr, decPart, decGuest, decConf, decEvent, decVcpu, decStep, bytesS, boolS, eventsS, intsS, guestsS, vcpusS, rowS, castL, Option.bind_some, Option.map_some, Option.some.injEq, Nat.beq_refl, beq_self_eq_true, Bool.and_self, cond_true, cond_false, eq_self, K.get]
  by_cases h : 0 < i ∧ i < 16
  · rw [if_pos h]
    have : i = 1 ∨ i = 2 ∨ i = 3 ∨ i = 4 ∨ i = 5 ∨ i = 6 ∨ i = 7 ∨ i = 8 ∨ i = 9 ∨ i = 10 ∨ i = 11 ∨ i = 12 ∨ i = 13 ∨ i = 14 ∨ i = 15 := by omega
    rcases this with rfl | rfl | rfl | rfl | rfl | rfl | rfl | rfl | rfl | rfl | rfl | rfl | rfl | rfl | rfl <;> simp
  · rw [if_neg h]
    have n : ∀ k : Int, 0 < k → k < 16 → (k == i) = false := fun k h0 h1 => by
      have : ¬ k = i := by omega
      simpa using this
    simp [n]
  
theorem c_ref07_Get : SpecOk EB 80 S_ref07_Get := spec_sig ok_ref07_Get (n := 60) fun ⟨r, i, ⟨⟩⟩ h hok => a_ref07_Get r i (ok_arr (okSL_head hok)) (ok_int (okSL_head (okSL_tail hok)))
end

/-! ref07_Put -/
def K.putN (r : List Int) (i v : Int) (j : Nat) : List Int := (K.put r i v).take j ++ List.replicate (16 - j) 0
theorem K.putN_step {r : List Int} {i v : Int} (hr : r.length = 16) {j : Nat} (hj : j < 16) {z : Int} (hz : z = (K.put r i v).getD j 0) : (K.putN r i v j).set j z = K.putN r i v (j + 1) := by
  have hl : (K.put r i v).length = 16 := by unfold K.put; split <;> simp [hr]
  unfold K.putN
  rw [List.set_append_right _ _ (by simp; omega), List.take_succ_eq_append_getElem (by omega), List.append_assoc]
  congr 1
  rw [show j - (List.take j (K.put r i v)).length = 0 by simp; omega, show 16 - j = (16 - (j + 1)) + 1 by omega, List.replicate_succ]
  simp [hz, hl, hj]
@[reducible] def L_ref07_Put (r : List Int) (i v : Int) : LoopSpec where
  σ := Nat
  slots := [1, 2, 3, 6, 7, 8]
  keys := [3, 6, 7]
  vals := fun j => [.v (.int .i64 i), .v (.int .u32 v), .loc 0 0 0 1, .loc 1 0 0 1, .loc 2 0 0 1, .v (.int .i64 (j : Int))]
  blks := fun j => [.cells [.arr .u32 16 r] 23, .cells [.arr .u32 16 [0, 0, 0, 0, 0, 0, 0, 0, 0, 0, 0, 0, 0, 0, 0, 0]] 23, .cells [.arr .u32 16 (K.putN r i v j)] 23]
  inv := fun j => j ≤ 16
  mu := fun j => 16 - j
def S_ref07_Put : Spec := sig [.a .u32 16, .i .i64, .i .u32] [.a .u32 16] (fun (r, i, v, _) => K.put r i v)
noncomputable def E_ref07_Put : Env := EB.adds []

theorem ok_ref07_Put : EnvOk E_ref07_Put := okEB.adds (l := _) trivial
theorem t_ref07_Put (r : List Int) (i : Int) (v : Int) : evFL E_ref07_Put (fun _ => some (L_ref07_Put r i v)) 60 82 (encArgs [.a .u32 16, .i .i64, .i .u32] (r, i, v, ())) = Tree.loop 0 (L_ref07_Put r i v) [(SV.v (Value.int IntKind.i64 i)), (SV.v (Value.int IntKind.u32 v)), (SV.loc 0 0 0 1), (SV.loc 1 0 0 1), (SV.loc 2 0 0 1), (SV.v (Value.int IntKind.i64 (0 : Int)))] [(Blk.cells [(SV.arr IntKind.u32 16 r)] 23), (Blk.cells [(SV.arr IntKind.u32 16 [(0 : Int), (0 : Int), (0 : Int), (0 : Int), (0 : Int), (0 : Int), (0 : Int), (0 : Int), (0 : Int), (0 : Int), (0 : Int), (0 : Int), (0 : Int), (0 : Int), (0 : Int), (0 : Int)])] 23), (Blk.cells [(SV.arr IntKind.u32 16 [(0 : Int), (0 : Int), (0 : Int), (0 : Int), (0 : Int), (0 : Int), (0 : Int), (0 : Int), (0 : Int), (0 : Int), (0 : Int), (0 : Int), (0 : Int), (0 : Int), (0 : Int), (0 : Int)])] 23)] fun (x0 : Nat) => (bif (decide ((Int.ofNat x0) < (16 : Int))) then (bif (inRange (Int.ofNat x0) 16) then (bif (inRange (Int.ofNat x0) 16) then (bif (BEq.beq (Int.ofNat x0) i) then (bif (bne (Int.ofNat x0) (0 : Int)) then (bif (inRange (Int.ofNat x0) 16) then ((Tree.next 0 [(SV.v (Value.int IntKind.i64 i)), (SV.v (Value.int IntKind.u32 v)), (SV.loc 0 0 0 1), (SV.loc 1 0 0 1), (SV.loc 2 0 0 1), (SV.v (Value.int IntKind.i64 (IntKind.wrap IntKind.i64 ((Int.ofNat x0) + (1 : Int)))))] [(Blk.cells [(SV.arr IntKind.u32 16 r)] 23), (Blk.cells [(SV.arr IntKind.u32 16 [(0 : Int), (0 : Int), (0 : Int), (0 : Int), (0 : Int), (0 : Int), (0 : Int), (0 :
 Int), (0 : Int), (0 : Int), (0 : Int), (0 : Int), (0 : Int), (0 : Int), (0 : Int), (0 : Int)])] 23), (Blk.cells [(SV.arr IntKind.u32 16 (List.set (List.set (K.putN r i v x0) ((Int.toNat (Int.ofNat x0))) (List.getD r ((Int.toNat (Int.ofNat x0))) (0 : Int))) ((Int.toNat (Int.ofNat x0))) v))] 23)])) else (Tree.fail)) else ((Tree.next 0 [(SV.v (Value.int IntKind.i64 i)), (SV.v (Value.int IntKind.u32 v)), (SV.loc 0 0 0 1), (SV.loc 1 0 0 1), (SV.loc 2 0 0 1), (SV.v (Value.int IntKind.i64 (IntKind.wrap IntKind.i64 ((Int.ofNat x0) + (1 : Int)))))] [(Blk.cells [(SV.arr IntKind.u32 16 r)] 23), (Blk.cells [(SV.arr IntKind.u32 16 [(0 : Int), (0 : Int), (0 : Int), (0 : Int), (0 : Int), (0 : Int), (0 : Int), (0 : Int), (0 : Int), (0 : Int), (0 : Int), (0 : Int), (0 : Int), (0 : Int), (0 : Int), (0 : Int)])] 23), (Blk.cells [(SV.arr IntKind.u32 16 (List.set (K.putN r i v x0) ((Int.toNat (Int.ofNat x0))) (List.getD r ((Int.toNat (Int.ofNat x0))) (0 : Int))))] 23)]))) else ((Tree.next 0 [(SV.v (Value.int IntKind.i64 i)), (SV.v (Value.int IntKind.u32 v)), (SV.loc 0 0 0 1), (SV.loc 1 0 0 1), (SV.loc 2 0 0 1), (SV.v (Value.int IntKind.i64 (IntKind.wrap IntKind.i64 ((Int.ofNat x0) + (1 : Int)))))] [(Blk.cells [(SV.arr IntKind.u32 16 r)] 23), (Blk.cells [(SV.arr IntKind.u32 16 [(0 : Int), (0 : Int), (0 : Int), (0 : Int), (0 : Int), (0 : Int), (0 : Int), (0 : Int), (0 : Int), (0 : Int), (0 : Int), (0 : Int), (0 : Int), (0 : Int), (0 : Int), (0 : Int)])] 23), (Blk.cells [(SV.arr IntKind.u32 16
 (List.set (K.putN r i v x0) ((Int.toNat (Int.ofNat x0))) (List.getD r ((Int.toNat (Int.ofNat x0))) (0 : Int))))] 23)]))) else (Tree.fail)) else (Tree.fail)) else (Tree.leaf (SV.agg [(SV.arr IntKind.u32 16 (K.putN r i v x0))]))) := by kernel_rfl
section
attribute [local irreducible] evF evFL evFLs
theorem a_ref07_Put (r : List Int) (i : Int) (v : Int) (ok_r : okL .u32 16 r) (ok_i : okI .i64 i) (ok_v : okI .u32 v) : (evFL E_ref07_Put (fun _ => some (L_ref07_Put r i v)) 60 82 (encArgs [.a .u32 16, .i .i64, .i .u32] (r, i, v, ()))).ends fun out_ => decO [.a .u32 16] out_ = some (K.put r i v) := by
  rw [t_ref07_Put, Tree.ends_holds]
  have hr := ok_r.1
  simp only [Tree.holds_loop]
  refine ⟨⟨(0 : Nat), rfl, rfl, Nat.zero_le _, trivial⟩, fun (j : Nat) (hj : j ≤ 16) => ?_⟩
  simp only [Tree.holds_loop, Tree.holds_fork, Tree.holds_next, if_true, Tree.holds_cond, Tree.holds_letv, Tree.holds_leaf, Tree.holds_fail, decO, decA, decTup, decMach, decCore, decTrap, decInstr, decPart, decGuest, decConf, decEvent, decVcpu, decStep, bytesS, boolS, eventsS, intsS, guestsS, vcpusS, rowS, castL, Option.bind_some, Option.map_some, Option.some.injEq, Nat.beq_refl, beq_self_eq_true, Bool.and_self, cond_true, cond_false, eq_self]
  refine ⟨fun h => ?_, fun h => ?_⟩
  · have hlt : j < 16 := by simp at h; omega
    have r1 : inRange (j : Int) 16 = true := inRange_iff.2 ⟨by omega, by omega⟩
    have e2 : IntKind.i64.wrap ((j : Int) + 1) = ((j + 1 : Nat) : Int) := by rw [wrapI64 (by omega) (by omega)]; rfl
    simp only [Int.ofNat_eq_natCast, Int.toNat_natCast, r1, true_implies, Bool.true_eq_false, false_implies, and_true, e2]
    have s1 : (j : Int) = i → j ≠ 0 → ((K.putN r i v j).set j (r.getD j 0)).set j v = K.putN r i v (j + 1) := fun q1 q2 => by
      rw [List.set_set, K.putN_step hr hlt]
      unfold K.put; rw [if_pos (by omega)]; subst q1; simp [hr, hlt]
    have s2 : ((j : Int) ≠ i ∨ j = 0) → (K.putN r i v j).set j (r.getD j 0) = K.putN r i v (j + 1) := fun q => by
      rw [K.putN_step hr hlt]
      unfold K.put; split
      · rw [List.getD_eq_getElem?_getD, List.getD_eq_getElem?_getD, List.getElem?_set_ne (by omega)]
      · rfl
    have fin : ∀ x, x = K.putN r i v (j + 1) → (L_ref07_Put r i v).at (fun y => (L_ref07_Put r i v).mu y < (L_ref07_Put r i v).mu j) [.v (.int .i64 i), .v (.int .u32 v), .loc 0 0 0 1, .loc 1 0 0 1, .loc 2 0 0 1, .v (.int .i64 ((j + 1 : Nat) : Int))] [.cells [.arr .u32 16 r] 23, .cells [.arr .u32 16 [0, 0, 0, 0, 0, 0, 0, 0, 0, 0, 0, 0, 0, 0, 0, 0]] 23, .cells [.arr .u32 16 x] 23] := fun x hx =>
      ⟨j + 1, rfl, by rw [hx], by show j + 1 ≤ 16; omega, by show 16 - (j + 1) < 16 - j; omega⟩
    refine ⟨fun q1 => ⟨fun q2 => ?_, fun q2 => ?_⟩, fun q1 => ?_⟩
    · exact fin _ (s1 (by simpa using q1) (by simpa using q2))
    · exact fin _ (s2 (.inr (by simpa using q2)))
    · exact fin _ (s2 (.inl (by simpa using q1)))
  · have : j = 16 := by simp at h; omega
    subst this
    have hl : (K.put r i v).length = 16 := by unfold K.put; split <;> simp [hr]
    show _ = K.put r i v
    unfold K.putN
    rw [List.take_of_length_le (by omega)]; simp
  
theorem c_ref07_Put : SpecOk EB 82 S_ref07_Put := spec_sigL ok_ref07_Put (n := 60) (fun (r, i, v, _) => fun _ => some (L_ref07_Put r i v)) fun ⟨r, i, v, ⟨⟩⟩ h hok => a_ref07_Put r i v (ok_arr (okSL_head hok)) (ok_int (okSL_head (okSL_tail hok))) (ok_int (okSL_head (okSL_tail (okSL_tail hok))))
end

/-! ref09_Return -/

def S_ref09_Return : Spec := sig [.core] [.core] (fun (c, _) => K.ret c)
noncomputable def E_ref09_Return : Env := EB.adds [(77, S_ref01_Put), (76, S_ref01_Field)]

theorem ok_ref09_Return : EnvOk E_ref09_Return := okEB.adds (l := _) ⟨c_ref01_Put, c_ref01_Field, trivial⟩
theorem t_ref09_Return (c : PCore) : evF E_ref09_Return 60 81 (encArgs [.core] (c, ())) = Tree.letv (okO [(AT.i IntKind.u32)]) (K.field (List.getD c.csr 0 (0 : Int)) (2 : Int) (1 : Int)) fun x0 => (Tree.letv (okO [(AT.i IntKind.u32)]) (K.bput (List.getD c.csr 0 (0 : Int)) (0 : Int) (1 : Int) x0) fun x1 => (Tree.letv (okO [(AT.i IntKind.u32)]) (K.field x1 (3 : Int) (1 : Int)) fun x2 => (Tree.letv (okO [(AT.i IntKind.u32)]) (K.bput x1 (1 : Int) (1 : Int) x2) fun x3 => (Tree.leaf (SV.agg [(SV.arr IntKind.u32 16 c.regs), (SV.v (Value.int IntKind.u32 (List.getD (List.set c.csr 0 x3) 1 (0 : Int)))), (SV.arr IntKind.u32 12 (List.set c.csr 0 x3))]))))) := by kernel_rfl
section
attribute [local irreducible] evF evFL evFLs
theorem a_ref09_Return (c : PCore) (ok_c : okCore c) : (evF E_ref09_Return 60 81 (encArgs [.core] (c, ()))).ends fun out_ => decO [.core] out_ = some (K.ret c) := by
  rw [t_ref09_Return, Tree.ends_holds]
  obtain ⟨s0, s1⟩ := ok_c.csr.u32 (i := 0) (by omega)
  simp only [Tree.holds_loop, Tree.holds_fork, Tree.holds_next, if_true, Tree.holds_cond, Tree.holds_letv, Tree.holds_leaf, Tree.holds_fail, decO, decA, decTup, decMach, decCore, decTrap, decInstr, decPart, decGuest, decConf, decEvent, decVcpu, decStep, bytesS, boolS, eventsS, intsS, guestsS, vcpusS, rowS, castL, Option.bind_some, Option.map_some, Option.some.injEq, Nat.beq_refl, beq_self_eq_true, Bool.and_self, cond_true, cond_false, eq_self, K.ret, K.retS]
  generalize c.csr.getD 0 0 = s at *
  have p : ∀ x at_ v : Int, K.bput x at_ 1 v = ((2 ^ at_.toNat * (2 * (x.toNat / 2 ^ (at_.toNat + 1)) + v.toNat % 2) + x.toNat % 2 ^ at_.toNat : Nat) : Int) := fun _ _ _ => rfl
  have p0 : ∀ x v : Int, K.bput x 0 1 v = ((2 * (x.toNat / 2) + v.toNat % 2 : Nat) : Int) := fun x v => by rw [p]; simp [Nat.mod_one]
  have p1 : ∀ x v : Int, K.bput x 1 1 v = ((2 * (2 * (x.toNat / 4) + v.toNat % 2) + x.toNat % 2 : Nat) : Int) := fun x v => by rw [p]; simp
  have f2 : K.field s 2 1 = s / 4 % 2 := by simp [K.field, K.pow]
  have f3 : ∀ x : Int, K.field x 3 1 = x / 8 % 2 := fun x => by simp [K.field, K.pow]
  simp only [f2, f3, p0, p1]
  have hg : ∀ z, (c.csr.set 0 z).getD 1 0 = c.csr.getD 1 0 := fun z => by simp [List.getD_eq_getElem?_getD]
  rw [hg]
  refine fun _ _ _ _ => ?_
  congr 2
  omega
  
theorem c_ref09_Return : SpecOk EB 81 S_ref09_Return := spec_sig ok_ref09_Return (n := 60) fun ⟨c, ⟨⟩⟩ h hok => a_ref09_Return c (ok_core (okSL_head hok))
end

/-! ref04_Read -/

def S_ref04_Read : Spec := sig [.a .u32 12, .i .u64, .i .i64] [.i .u32] (fun (c, time, n, _) => K.csrRead c time n)
noncomputable def E_ref04_Read : Env := EB.adds []

theorem ok_ref04_Read : EnvOk E_ref04_Read := okEB.adds (l := _) trivial
theorem t_ref04_Read (c : List Int) (time : Int) (n : Int) : evF E_ref04_Read 60 83 (encArgs [.a .u32 12, .i .u64, .i .i64] (c, time, n, ())) = bif (BEq.beq n (7 : Int)) then (Tree.leaf (SV.v (Value.int IntKind.u32 (IntKind.wrap IntKind.u32 (Int.tmod time (4294967296 : Int)))))) else (bif (BEq.beq n (8 : Int)) then (Tree.leaf (SV.v (Value.int IntKind.u32 (IntKind.wrap IntKind.u32 (IntKind.wrap IntKind.u64 (Int.tdiv time (4294967296 : Int))))))) else (bif (decide (n < (0 : Int))) then (Tree.leaf (SV.v (Value.int IntKind.u32 (0 : Int)))) else (bif (decide (n > (11 : Int))) then (Tree.leaf (SV.v (Value.int IntKind.u32 (0 : Int)))) else (bif (inRange n 12) then (Tree.leaf (SV.v (Value.int IntKind.u32 (List.getD c ((Int.toNat n)) (0 : Int))))) else (Tree.fail))))) := by kernel_rfl
section
attribute [local irreducible] evF evFL evFLs
theorem a_ref04_Read (c : List Int) (time : Int) (n : Int) (ok_c : okL .u32 12 c) (ok_time : okI .u64 time) (ok_n : okI .i64 n) : (evF E_ref04_Read 60 83 (encArgs [.a .u32 12, .i .u64, .i .i64] (c, time, n, ()))).ends fun out_ => decO [.i .u32] out_ = some (K.csrRead c time n) := by
  rw [t_ref04_Read, Tree.ends_holds]
  obtain ⟨t0, t1⟩ := okI_u64 ok_time
  have e1 : IntKind.u32.wrap (Int.tmod time 4294967296) = time % 4294967296 := by rw [Int.tmod_eq_emod_of_nonneg t0, wrap32]; omega
  have e2 : IntKind.u32.wrap (IntKind.u64.wrap (Int.tdiv time 4294967296)) = time / 4294967296 := by rw [Int.tdiv_eq_ediv_of_nonneg t0, wrap64, wrap32]; omega
  simp only [Tree.holds_loop, Tree.holds_fork, Tree.holds_next, if_true, Tree.holds_cond, Tree.holds_letv, Tree.holds_leaf, Tree.holds_fail, decO, decA, decTup, decMach, decCore, decTrap, decInstr, decPart, decGuest, decConf, decEvent, decVcpu, decStep, bytesS, boolS, eventsS, intsS, guestsS, vcpusS, rowS, castL, Option.bind_some, Option.map_some, Option.some.injEq, Nat.beq_refl, beq_self_eq_true, Bool.and_self, cond_true, cond_false, eq_self, K.csrRead, e1, e2]
  grind [inRange]
  
theorem c_ref04_Read : SpecOk EB 83 S_ref04_Read := spec_sig ok_ref04_Read (n := 60) fun ⟨c, time, n, ⟨⟩⟩ h hok => a_ref04_Read c time n (ok_arr (okSL_head hok)) (ok_int (okSL_head (okSL_tail hok))) (ok_int (okSL_head (okSL_tail (okSL_tail hok))))
end

/-! ref04_Writable -/

def S_ref04_Writable : Spec := sig [.i .i64, .i .i64] [.b] (fun (n, b, _) => K.wrB n b)
noncomputable def E_ref04_Writable : Env := EB.adds []

theorem ok_ref04_Writable : EnvOk E_ref04_Writable := okEB.adds (l := _) trivial
theorem t_ref04_Writable (n : Int) (b : Int) : evF E_ref04_Writable 60 114 (encArgs [.i .i64, .i .i64] (n, b, ())) = bif (BEq.beq n (0 : Int)) then (bif (decide (b ≥ (1 : Int))) then (bif (decide (b ≤ (3 : Int))) then (Tree.leaf (SV.b true)) else (Tree.leaf (SV.b false))) else (Tree.leaf (SV.b false))) else (bif (BEq.beq n (1 : Int)) then (bif (decide (b ≥ (2 : Int))) then (Tree.leaf (SV.b true)) else (Tree.leaf (SV.b false))) else (bif (BEq.beq n (4 : Int)) then (bif (decide (b ≥ (2 : Int))) then (Tree.leaf (SV.b true)) else (Tree.leaf (SV.b false))) else (bif (BEq.beq n (5 : Int)) then (bif (decide (b ≥ (2 : Int))) then (Tree.leaf (SV.b true)) else (Tree.leaf (SV.b false))) else (bif (BEq.beq n (2 : Int)) then (Tree.leaf (SV.b true)) else (bif (BEq.beq n (3 : Int)) then (Tree.leaf (SV.b true)) else (bif (BEq.beq n (6 : Int)) then (Tree.leaf (SV.b true)) else (bif (BEq.beq n (9 : Int)) then (Tree.leaf (SV.b true)) else (bif (BEq.beq n (10 : Int)) then (Tree.leaf (SV.b true)) else (bif (BEq.beq n (11 : Int)) then (Tree.leaf (SV.b true)) else (Tree.leaf (SV.b false))))))))))) := by kernel_rfl
section
attribute [local irreducible] evF evFL evFLs
theorem a_ref04_Writable (n : Int) (b : Int) (ok_n : okI .i64 n) (ok_b : okI .i64 b) : (evF E_ref04_Writable 60 114 (encArgs [.i .i64, .i .i64] (n, b, ()))).ends fun out_ => decO [.b] out_ = some (K.wrB n b) := by
  rw [t_ref04_Writable, Tree.ends_holds]
  simp only [Tree.holds_loop, Tree.holds_fork, Tree.holds_next, if_true, Tree.holds_cond, Tree.holds_letv, Tree.holds_leaf, Tree.holds_fail, decO, decA, decTup, decMach, decCore, decTrap, decInstr, decPart, decGuest, decConf, decEvent, decVcpu, decStep, bytesS, boolS, eventsS, intsS, guestsS, vcpusS, rowS, castL, Option.bind_some, Option.map_some, Option.some.injEq, Nat.beq_refl, beq_self_eq_true, Bool.and_self, cond_true, cond_false, eq_self, K.wrB]
  grind
  
theorem c_ref04_Writable : SpecOk EB 114 S_ref04_Writable := spec_sig ok_ref04_Writable (n := 60) fun ⟨n, b, ⟨⟩⟩ h hok => a_ref04_Writable n b (ok_int (okSL_head hok)) (ok_int (okSL_head (okSL_tail hok)))
end

/-! ref04_Write -/
def K.wTo (c : List Int) (n v : Int) (j : Nat) : Int := ((K.mix (c.getD n.toNat 0) v (K.mask n)).toNat % 2 ^ j : Nat)
@[reducible] def L_ref04_Write (c : List Int) (n v : Int) : LoopSpec where
  σ := Nat
  slots := [1, 2, 3, 6, 7, 8, 9]
  keys := [3, 6]
  vals := fun j => [.v (.int .i64 n), .v (.int .u32 v), .loc 0 0 0 1, .loc 1 0 0 1, .v (.int .u32 (K.wTo c n v j)), .v (.int .u32 (((2 ^ j : Nat) : Int) % 4294967296)), .v (.int .i64 (j : Int))]
  blks := fun _ => [.cells [.arr .u32 12 c] 24, .cells [.arr .u32 12 [0, 0, 0, 0, 0, 0, 0, 0, 0, 0, 0, 0]] 24]
  inv := fun j => j ≤ 32
  mu := fun j => 32 - j
def S_ref04_Write : Spec := sig [.a .u32 12, .i .i64, .i .u32] [.a .u32 12] (fun (c, n, v, _) => K.csrWrite c n v)
noncomputable def E_ref04_Write : Env := EB.adds [(114, S_ref04_Writable)]

theorem ok_ref04_Write : EnvOk E_ref04_Write := okEB.adds (l := _) ⟨c_ref04_Writable, trivial⟩
theorem t_ref04_Write (c : List Int) (n : Int) (v : Int) : evFL E_ref04_Write (fun _ => some (L_ref04_Write c n v)) 60 84 (encArgs [.a .u32 12, .i .i64, .i .u32] (c, n, v, ())) = bif (decide (n < (0 : Int))) then (Tree.leaf (SV.agg [(SV.arr IntKind.u32 12 c)])) else (bif (decide (n > (11 : Int))) then (Tree.leaf (SV.agg [(SV.arr IntKind.u32 12 c)])) else (Tree.loop 0 (L_ref04_Write c n v) [(SV.v (Value.int IntKind.i64 n)), (SV.v (Value.int IntKind.u32 v)), (SV.loc 0 0 0 1), (SV.loc 1 0 0 1), (SV.v (Value.int IntKind.u32 (0 : Int))), (SV.v (Value.int IntKind.u32 (1 : Int))), (SV.v (Value.int IntKind.i64 (0 : Int)))] [(Blk.cells [(SV.arr IntKind.u32 12 c)] 24), (Blk.cells [(SV.arr IntKind.u32 12 [(0 : Int), (0 : Int), (0 : Int), (0 : Int), (0 : Int), (0 : Int), (0 : Int), (0 : Int), (0 : Int), (0 : Int), (0 : Int), (0 : Int)])] 24)] fun (x0 : Nat) => (bif (decide ((Int.ofNat x0) < (32 : Int))) then (bif (inRange n 12) then (bif (bne ((Int.ofNat (2 ^ x0)) % (4294967296 : Int)) (0 : Int)) then (Tree.letv (okO [AT.b]) (K.wrB n (Int.ofNat x0)) fun x1 => (bif x1 then (bif (bne ((Int.ofNat (2 ^ x0)) % (4294967296 : Int)) (0 : Int)) then ((Tree.next 0 [(SV.v (Value.int IntKind.i64 n)), (SV.v (Value.int IntKind.u32 v)), (SV.loc 0 0 0 1), (SV.loc 1 0 0 1), (SV.v (Value.int IntKind.u32 (IntKind.wrap IntKind.u32 ((K.wTo c n v x0) + (IntKind.wrap IntKind.u32 ((Int.tmod (IntKind.wrap IntKind.u32 (Int.tdiv v ((Int.ofNat (2 ^ x0)) % (4294967296 : Int)))) (2 : Int)) * ((Int.ofNat (2 ^ x0)) %
 (4294967296 : Int)))))))), (SV.v (Value.int IntKind.u32 (IntKind.wrap IntKind.u32 (((Int.ofNat (2 ^ x0)) % (4294967296 : Int)) * (2 : Int))))), (SV.v (Value.int IntKind.i64 (IntKind.wrap IntKind.i64 ((Int.ofNat x0) + (1 : Int)))))] [(Blk.cells [(SV.arr IntKind.u32 12 c)] 24), (Blk.cells [(SV.arr IntKind.u32 12 [(0 : Int), (0 : Int), (0 : Int), (0 : Int), (0 : Int), (0 : Int), (0 : Int), (0 : Int), (0 : Int), (0 : Int), (0 : Int), (0 : Int)])] 24)])) else (Tree.fail)) else ((Tree.next 0 [(SV.v (Value.int IntKind.i64 n)), (SV.v (Value.int IntKind.u32 v)), (SV.loc 0 0 0 1), (SV.loc 1 0 0 1), (SV.v (Value.int IntKind.u32 (IntKind.wrap IntKind.u32 ((K.wTo c n v x0) + (IntKind.wrap IntKind.u32 ((Int.tmod (IntKind.wrap IntKind.u32 (Int.tdiv (List.getD c ((Int.toNat n)) (0 : Int)) ((Int.ofNat (2 ^ x0)) % (4294967296 : Int)))) (2 : Int)) * ((Int.ofNat (2 ^ x0)) % (4294967296 : Int)))))))), (SV.v (Value.int IntKind.u32 (IntKind.wrap IntKind.u32 (((Int.ofNat (2 ^ x0)) % (4294967296 : Int)) * (2 : Int))))), (SV.v (Value.int IntKind.i64 (IntKind.wrap IntKind.i64 ((Int.ofNat x0) + (1 : Int)))))] [(Blk.cells [(SV.arr IntKind.u32 12 c)] 24), (Blk.cells [(SV.arr IntKind.u32 12 [(0 : Int), (0 : Int), (0 : Int), (0 : Int), (0 : Int), (0 : Int), (0 : Int), (0 : Int), (0 : Int), (0 : Int), (0 : Int), (0 : Int)])] 24)])))) else (Tree.fail)) else (Tree.fail)) else (bif (inRange n 12) then (Tree.leaf (SV.agg [(SV.arr IntKind.u32 12 (List.set c ((Int.toNat n)) (K.wTo c n v x0)))])) else
 (Tree.fail))))) := by kernel_rfl
section
attribute [local irreducible] evF evFL evFLs
theorem a_ref04_Write (c : List Int) (n : Int) (v : Int) (ok_c : okL .u32 12 c) (ok_n : okI .i64 n) (ok_v : okI .u32 v) : (evFL E_ref04_Write (fun _ => some (L_ref04_Write c n v)) 60 84 (encArgs [.a .u32 12, .i .i64, .i .u32] (c, n, v, ()))).ends fun out_ => decO [.a .u32 12] out_ = some (K.csrWrite c n v) := by
  rw [t_ref04_Write, Tree.ends_holds]
  obtain ⟨v0, v1⟩ := okI_u32 ok_v
  simp only [Tree.holds_cond, Tree.holds_leaf, Tree.holds_loop]
  refine ⟨fun h => ?_, fun h0 => ⟨fun h => ?_, fun h1 => ?_⟩⟩
  · have h : n < 0 := by simpa using h
    simp only [decO, decA, decTup, decMach, decCore, decTrap, decInstr, decPart, decGuest, decConf, decEvent, decVcpu, decStep, bytesS, boolS, eventsS, intsS, guestsS, vcpusS, rowS, castL, Option.bind_some, Option.map_some, Option.some.injEq, Nat.beq_refl, beq_self_eq_true, Bool.and_self, cond_true, cond_false, eq_self, K.csrWrite]; rw [if_neg (by omega)]
  · have h : n > 11 := by simpa using h
    simp only [decO, decA, decTup, decMach, decCore, decTrap, decInstr, decPart, decGuest, decConf, decEvent, decVcpu, decStep, bytesS, boolS, eventsS, intsS, guestsS, vcpusS, rowS, castL, Option.bind_some, Option.map_some, Option.some.injEq, Nat.beq_refl, beq_self_eq_true, Bool.and_self, cond_true, cond_false, eq_self, K.csrWrite]; rw [if_neg (by omega)]
  have n0 : 0 ≤ n := by simp at h0; omega
  have n1 : n < 12 := by simp at h1; omega
  have hr : inRange n 12 = true := inRange_iff.2 ⟨n0, n1⟩
  obtain ⟨x0, x1⟩ := ok_c.u32 (i := n.toNat) (by omega)
  obtain ⟨m0, m1⟩ := K.mask_ok n
  have ok2 := K.mix_ok x0 x1 v0 v1 m0 m1
  have hm : K.mask n = K.mk.getD n.toNat 0 := by unfold K.mask; rw [if_pos ⟨n0, n1⟩]
  have hbit : ∀ i : Nat, (K.mix (c.getD n.toNat 0) v (K.mask n)).toNat.testBit i = (if (K.mask n).toNat.testBit i then v.toNat.testBit i else (c.getD n.toNat 0).toNat.testBit i) := fun i => by
    have := mix_nat (x := (c.getD n.toNat 0).toNat) (v := v.toNat) (m := (K.mask n).toNat) (by omega) (by omega) (by omega)
    rw [Int.toNat_of_nonneg x0, Int.toNat_of_nonneg v0, Int.toNat_of_nonneg m0] at this
    rw [this, Int.toNat_natCast, mix_bit (by omega) (by omega)]
  have hfin : K.csrWrite c n v = c.set n.toNat (K.mix (c.getD n.toNat 0) v (K.mask n)) := by unfold K.csrWrite; rw [if_pos ⟨n0, n1⟩, hm]
  refine ⟨⟨(0 : Nat), by simp [K.wTo, Nat.mod_one], rfl, Nat.zero_le _, trivial⟩, fun (j : Nat) (hj : j ≤ 32) => ?_⟩
  simp only [Tree.holds_loop, Tree.holds_fork, Tree.holds_next, if_true, Tree.holds_cond, Tree.holds_letv, Tree.holds_leaf, Tree.holds_fail]
  have hwr := fun (h : j < 32) => wrB_bit (n := n) h
  have hw : ∀ i, K.wTo c n v i = (((K.mix (c.getD n.toNat 0) v (K.mask n)).toNat % 2 ^ i : Nat) : Int) := fun _ => rfl
  rw [hfin]
  generalize hX : (c.getD n.toNat 0) = X at *
  generalize hMM : K.mask n = m at *
  generalize hTT : K.mix X v m = T at *
  refine ⟨fun h => ?_, fun h => ?_⟩
  · have hlt : j < 32 := by simp at h; omega
    have h2 := pow_le32 (i := j) (by omega)
    have h3 : 2 ^ j ≤ 2147483648 := by
      have : 2 ^ j ≤ 2 ^ 31 := Nat.pow_le_pow_right (by omega) (by omega)
      omega
    have hp := Nat.two_pow_pos j
    have e2 : IntKind.i64.wrap ((j : Int) + 1) = ((j + 1 : Nat) : Int) := by rw [wrapI64 (by omega) (by omega)]; rfl
    have e3 : (((2 ^ j : Nat) : Int) % 4294967296) = ((2 ^ j : Nat) : Int) := by omega
    have e4 : IntKind.u32.wrap (((2 ^ j : Nat) : Int) * 2) = (((2 ^ (j + 1) : Nat) : Int) % 4294967296) := by rw [wrap32, Nat.pow_succ]; omega
    have hne : ((((2 ^ j : Nat) : Int)) != 0) = true := bne_iff_ne.2 (by omega)
    have key : ∀ x : Int, 0 ≤ x → x < 4294967296 → x.toNat.testBit j = T.toNat.testBit j →
        IntKind.u32.wrap (K.wTo c n v j + IntKind.u32.wrap ((Int.tmod (IntKind.u32.wrap (Int.tdiv x ((2 ^ j : Nat) : Int))) 2) * ((2 ^ j : Nat) : Int))) = K.wTo c n v (j + 1) := fun x a0 a1 hb => by
      obtain ⟨x, rfl⟩ := Int.eq_ofNat_of_zero_le a0
      rw [Int.toNat_natCast] at hb
      rw [hw, hw, bit_more_aux, ← hb, Nat.toNat_testBit]
      have b1 : Int.tdiv (x : Int) ((2 ^ j : Nat) : Int) = ((x / 2 ^ j : Nat) : Int) := by rw [Int.tdiv_eq_ediv_of_nonneg (by omega)]; rfl
      have b2 : x / 2 ^ j ≤ x := Nat.div_le_self _ _
      have hz0 : x / 2 ^ j % 2 < 2 := Nat.mod_lt _ (by omega)
      have b3 : T.toNat % 2 ^ j < 2 ^ j := Nat.mod_lt _ hp
      have b4 : IntKind.u32.wrap ((x / 2 ^ j : Nat) : Int) = ((x / 2 ^ j : Nat) : Int) := by
        generalize x / 2 ^ j = y at *
        rw [wrap32]; omega
      have b5 : Int.tmod ((x / 2 ^ j : Nat) : Int) 2 = ((x / 2 ^ j % 2 : Nat) : Int) := by rw [Int.tmod_eq_emod_of_nonneg (Int.natCast_nonneg _)]; rfl
      rw [b1, b4, b5, wrap32, wrap32]
      generalize x / 2 ^ j % 2 = z at *
      have hz : z = 0 ∨ z = 1 := by omega
      generalize T.toNat % 2 ^ j = y at *
      generalize 2 ^ j = q at *
      rcases hz with rfl | rfl
      · simp only [Int.natCast_zero, Int.zero_mul, Nat.mul_zero]; omega
      · simp only [Int.natCast_one, Int.one_mul, Nat.mul_one]; omega
    have nx : ∀ z : Int, z = K.wTo c n v (j + 1) → (L_ref04_Write c n v).at (fun y => (L_ref04_Write c n v).mu y < (L_ref04_Write c n v).mu j) [SV.v (.int .i64 n), .v (.int .u32 v), .loc 0 0 0 1, .loc 1 0 0 1, .v (.int .u32 z), .v (.int .u32 (IntKind.u32.wrap (((2 ^ j : Nat) : Int) * 2))), .v (.int .i64 (IntKind.i64.wrap ((j : Int) + 1)))] [.cells [.arr .u32 12 c] 24, .cells [.arr .u32 12 [0, 0, 0, 0, 0, 0, 0, 0, 0, 0, 0, 0]] 24] := fun z hz => by
      refine ⟨j + 1, ?_, rfl, ?_, ?_⟩
      · rw [hz, e2, e4]
      · show j + 1 ≤ 32; omega
      · show 32 - (j + 1) < 32 - j; omega
    have hb := hbit j
    have hwr := hwr hlt
    simp only [Int.ofNat_eq_natCast] at *
    rw [hwr]
    simp only [e3, hne, hr, true_implies, Bool.true_eq_false, false_implies, and_true]
    intro _
    refine ⟨fun q => ?_, fun q => ?_⟩
    · rw [q] at hb
      exact nx _ (key v v0 v1 (by simpa using hb.symm))
    · rw [q] at hb
      refine nx _ (key X x0 x1 (by simpa using hb.symm))
  · have : j = 32 := by simp at h; omega
    subst this
    have e : K.wTo c n v 32 = T := by
      rw [hw, Nat.mod_eq_of_lt (show T.toNat < 2 ^ 32 by omega), Int.toNat_of_nonneg ok2.1]
    rw [e, hr]
    simp [decO, decA, decTup, decMach, decCore, decTrap, decInstr, decPart, decGuest, decConf, decEvent, decVcpu, decStep, bytesS, boolS, eventsS, intsS, guestsS, vcpusS, rowS, castL, Option.bind_some, Option.map_some, Option.some.injEq, Nat.beq_refl, beq_self_eq_true, Bool.and_self, cond_true, cond_false, eq_self]
  
  
theorem c_ref04_Write : SpecOk EB 84 S_ref04_Write := spec_sigL ok_ref04_Write (n := 60) (fun (c, n, v, _) => fun _ => some (L_ref04_Write c n v)) fun ⟨c, n, v, ⟨⟩⟩ h hok => a_ref04_Write c n v (ok_arr (okSL_head hok)) (ok_int (okSL_head (okSL_tail hok))) (ok_int (okSL_head (okSL_tail (okSL_tail hok))))
end

/-! ref12_Do -/

def S_ref12_Do : Spec := sig [.mach, .instr] [.mach] (fun (m, i, _) => K.priv m i) (pre := fun (m, i, _) => decide (m.out.length ≤ 1099511627776))
noncomputable def E_ref12_Do : Env := EB.adds [(80, S_ref07_Get), (82, S_ref07_Put), (81, S_ref09_Return), (83, S_ref04_Read), (84, S_ref04_Write)]

theorem ok_ref12_Do : EnvOk E_ref12_Do := okEB.adds (l := _) ⟨c_ref07_Get, c_ref07_Put, c_ref09_Return, c_ref04_Read, c_ref04_Write, trivial⟩
theorem t_ref12_Do (m : PMach) (i : PInstr) : evF E_ref12_Do 60 48 (encArgs [.mach, .instr] (m, i, ())) = Tree.letv (okO [(AT.i IntKind.u32)]) (K.get m.core.regs i.ra) fun x0 => (bif (BEq.beq i.op (23 : Int)) then (Tree.letv (okO [AT.core]) (K.ret m.core) fun x1 => (Tree.leaf (SV.agg [(SV.arr IntKind.u32 16 x1.regs), (SV.v (Value.int IntKind.u32 x1.pc)), (SV.arr IntKind.u32 12 x1.csr), (SV.rd ETy.u8 m.mem), (SV.v (Value.int IntKind.u64 m.time)), (SV.rd ETy.u8 m.out), (SV.v (Value.bool m.halted))]))) else (bif (BEq.beq i.op (21 : Int)) then (Tree.letv (okO [(AT.i IntKind.u32)]) (K.csrRead m.core.csr m.time (IntKind.wrap IntKind.i64 i.imm)) fun x1 => (Tree.letv (okO [(AT.a IntKind.u32 16)]) (K.put m.core.regs i.rd x1) fun x2 => (bif (BEq.beq i.op (22 : Int)) then (Tree.letv (okO [(AT.a IntKind.u32 12)]) (K.csrWrite m.core.csr (IntKind.wrap IntKind.i64 i.imm) x0) fun x3 => (bif (BEq.beq i.op (24 : Int)) then (bif (BEq.beq i.op (25 : Int)) then (bif (Bool.or (Bool.not (Nat.beq (List.length m.out) 0)) true) then (bif (Nat.ble ((0 + (List.length m.out)) * 1) 140737488355328) then (bif (Nat.ble (((List.length m.out) + 1) * 1) 140737488355328) then (Tree.leaf (SV.agg [(SV.arr IntKind.u32 16 x2), (SV.v (Value.int IntKind.u32 (IntKind.wrap IntKind.u32 (m.core.pc + (4 : Int))))), (SV.arr IntKind.u32 12 x3), (SV.rd ETy.u8 m.mem), (SV.v (Value.int IntKind.u64 m.time)), (SV.rd ETy.u8 (List.append m.out [(IntKind.wrap IntKind.u8 (Int.tmod x0 (256 : Int)))])), (SV.b true)])) else (Tree.fail))
 else (Tree.fail)) else (Tree.fail)) else (Tree.leaf (SV.agg [(SV.arr IntKind.u32 16 x2), (SV.v (Value.int IntKind.u32 (IntKind.wrap IntKind.u32 (m.core.pc + (4 : Int))))), (SV.arr IntKind.u32 12 x3), (SV.rd ETy.u8 m.mem), (SV.v (Value.int IntKind.u64 m.time)), (SV.rd ETy.u8 m.out), (SV.b true)]))) else (bif (BEq.beq i.op (25 : Int)) then (bif (Bool.or (Bool.not (Nat.beq (List.length m.out) 0)) true) then (bif (Nat.ble ((0 + (List.length m.out)) * 1) 140737488355328) then (bif (Nat.ble (((List.length m.out) + 1) * 1) 140737488355328) then (Tree.leaf (SV.agg [(SV.arr IntKind.u32 16 x2), (SV.v (Value.int IntKind.u32 (IntKind.wrap IntKind.u32 (m.core.pc + (4 : Int))))), (SV.arr IntKind.u32 12 x3), (SV.rd ETy.u8 m.mem), (SV.v (Value.int IntKind.u64 m.time)), (SV.rd ETy.u8 (List.append m.out [(IntKind.wrap IntKind.u8 (Int.tmod x0 (256 : Int)))])), (SV.v (Value.bool m.halted))])) else (Tree.fail)) else (Tree.fail)) else (Tree.fail)) else (Tree.leaf (SV.agg [(SV.arr IntKind.u32 16 x2), (SV.v (Value.int IntKind.u32 (IntKind.wrap IntKind.u32 (m.core.pc + (4 : Int))))), (SV.arr IntKind.u32 12 x3), (SV.rd ETy.u8 m.mem), (SV.v (Value.int IntKind.u64 m.time)), (SV.rd ETy.u8 m.out), (SV.v (Value.bool m.halted))]))))) else (bif (BEq.beq i.op (24 : Int)) then (bif (BEq.beq i.op (25 : Int)) then (bif (Bool.or (Bool.not (Nat.beq (List.length m.out) 0)) true) then (bif (Nat.ble ((0 + (List.length m.out)) * 1) 140737488355328) then (bif (Nat.ble (((List.length m.out) + 1) * 1) 140737488355328)
 then (Tree.leaf (SV.agg [(SV.arr IntKind.u32 16 x2), (SV.v (Value.int IntKind.u32 (IntKind.wrap IntKind.u32 (m.core.pc + (4 : Int))))), (SV.arr IntKind.u32 12 m.core.csr), (SV.rd ETy.u8 m.mem), (SV.v (Value.int IntKind.u64 m.time)), (SV.rd ETy.u8 (List.append m.out [(IntKind.wrap IntKind.u8 (Int.tmod x0 (256 : Int)))])), (SV.b true)])) else (Tree.fail)) else (Tree.fail)) else (Tree.fail)) else (Tree.leaf (SV.agg [(SV.arr IntKind.u32 16 x2), (SV.v (Value.int IntKind.u32 (IntKind.wrap IntKind.u32 (m.core.pc + (4 : Int))))), (SV.arr IntKind.u32 12 m.core.csr), (SV.rd ETy.u8 m.mem), (SV.v (Value.int IntKind.u64 m.time)), (SV.rd ETy.u8 m.out), (SV.b true)]))) else (bif (BEq.beq i.op (25 : Int)) then (bif (Bool.or (Bool.not (Nat.beq (List.length m.out) 0)) true) then (bif (Nat.ble ((0 + (List.length m.out)) * 1) 140737488355328) then (bif (Nat.ble (((List.length m.out) + 1) * 1) 140737488355328) then (Tree.leaf (SV.agg [(SV.arr IntKind.u32 16 x2), (SV.v (Value.int IntKind.u32 (IntKind.wrap IntKind.u32 (m.core.pc + (4 : Int))))), (SV.arr IntKind.u32 12 m.core.csr), (SV.rd ETy.u8 m.mem), (SV.v (Value.int IntKind.u64 m.time)), (SV.rd ETy.u8 (List.append m.out [(IntKind.wrap IntKind.u8 (Int.tmod x0 (256 : Int)))])), (SV.v (Value.bool m.halted))])) else (Tree.fail)) else (Tree.fail)) else (Tree.fail)) else (Tree.leaf (SV.agg [(SV.arr IntKind.u32 16 x2), (SV.v (Value.int IntKind.u32 (IntKind.wrap IntKind.u32 (m.core.pc + (4 : Int))))), (SV.arr IntKind.u32 12 m.core.csr), (SV.rd ETy.u8
 m.mem), (SV.v (Value.int IntKind.u64 m.time)), (SV.rd ETy.u8 m.out), (SV.v (Value.bool m.halted))]))))))) else (bif (BEq.beq i.op (22 : Int)) then (Tree.letv (okO [(AT.a IntKind.u32 12)]) (K.csrWrite m.core.csr (IntKind.wrap IntKind.i64 i.imm) x0) fun x1 => (bif (BEq.beq i.op (24 : Int)) then (bif (BEq.beq i.op (25 : Int)) then (bif (Bool.or (Bool.not (Nat.beq (List.length m.out) 0)) true) then (bif (Nat.ble ((0 + (List.length m.out)) * 1) 140737488355328) then (bif (Nat.ble (((List.length m.out) + 1) * 1) 140737488355328) then (Tree.leaf (SV.agg [(SV.arr IntKind.u32 16 m.core.regs), (SV.v (Value.int IntKind.u32 (IntKind.wrap IntKind.u32 (m.core.pc + (4 : Int))))), (SV.arr IntKind.u32 12 x1), (SV.rd ETy.u8 m.mem), (SV.v (Value.int IntKind.u64 m.time)), (SV.rd ETy.u8 (List.append m.out [(IntKind.wrap IntKind.u8 (Int.tmod x0 (256 : Int)))])), (SV.b true)])) else (Tree.fail)) else (Tree.fail)) else (Tree.fail)) else (Tree.leaf (SV.agg [(SV.arr IntKind.u32 16 m.core.regs), (SV.v (Value.int IntKind.u32 (IntKind.wrap IntKind.u32 (m.core.pc + (4 : Int))))), (SV.arr IntKind.u32 12 x1), (SV.rd ETy.u8 m.mem), (SV.v (Value.int IntKind.u64 m.time)), (SV.rd ETy.u8 m.out), (SV.b true)]))) else (bif (BEq.beq i.op (25 : Int)) then (bif (Bool.or (Bool.not (Nat.beq (List.length m.out) 0)) true) then (bif (Nat.ble ((0 + (List.length m.out)) * 1) 140737488355328) then (bif (Nat.ble (((List.length m.out) + 1) * 1) 140737488355328) then (Tree.leaf (SV.agg [(SV.arr IntKind.u32 16 m.core.regs), (SV.v
 (Value.int IntKind.u32 (IntKind.wrap IntKind.u32 (m.core.pc + (4 : Int))))), (SV.arr IntKind.u32 12 x1), (SV.rd ETy.u8 m.mem), (SV.v (Value.int IntKind.u64 m.time)), (SV.rd ETy.u8 (List.append m.out [(IntKind.wrap IntKind.u8 (Int.tmod x0 (256 : Int)))])), (SV.v (Value.bool m.halted))])) else (Tree.fail)) else (Tree.fail)) else (Tree.fail)) else (Tree.leaf (SV.agg [(SV.arr IntKind.u32 16 m.core.regs), (SV.v (Value.int IntKind.u32 (IntKind.wrap IntKind.u32 (m.core.pc + (4 : Int))))), (SV.arr IntKind.u32 12 x1), (SV.rd ETy.u8 m.mem), (SV.v (Value.int IntKind.u64 m.time)), (SV.rd ETy.u8 m.out), (SV.v (Value.bool m.halted))]))))) else (bif (BEq.beq i.op (24 : Int)) then (bif (BEq.beq i.op (25 : Int)) then (bif (Bool.or (Bool.not (Nat.beq (List.length m.out) 0)) true) then (bif (Nat.ble ((0 + (List.length m.out)) * 1) 140737488355328) then (bif (Nat.ble (((List.length m.out) + 1) * 1) 140737488355328) then (Tree.leaf (SV.agg [(SV.arr IntKind.u32 16 m.core.regs), (SV.v (Value.int IntKind.u32 (IntKind.wrap IntKind.u32 (m.core.pc + (4 : Int))))), (SV.arr IntKind.u32 12 m.core.csr), (SV.rd ETy.u8 m.mem), (SV.v (Value.int IntKind.u64 m.time)), (SV.rd ETy.u8 (List.append m.out [(IntKind.wrap IntKind.u8 (Int.tmod x0 (256 : Int)))])), (SV.b true)])) else (Tree.fail)) else (Tree.fail)) else (Tree.fail)) else (Tree.leaf (SV.agg [(SV.arr IntKind.u32 16 m.core.regs), (SV.v (Value.int IntKind.u32 (IntKind.wrap IntKind.u32 (m.core.pc + (4 : Int))))), (SV.arr IntKind.u32 12 m.core.csr), (SV.rd
 ETy.u8 m.mem), (SV.v (Value.int IntKind.u64 m.time)), (SV.rd ETy.u8 m.out), (SV.b true)]))) else (bif (BEq.beq i.op (25 : Int)) then (bif (Bool.or (Bool.not (Nat.beq (List.length m.out) 0)) true) then (bif (Nat.ble ((0 + (List.length m.out)) * 1) 140737488355328) then (bif (Nat.ble (((List.length m.out) + 1) * 1) 140737488355328) then (Tree.leaf (SV.agg [(SV.arr IntKind.u32 16 m.core.regs), (SV.v (Value.int IntKind.u32 (IntKind.wrap IntKind.u32 (m.core.pc + (4 : Int))))), (SV.arr IntKind.u32 12 m.core.csr), (SV.rd ETy.u8 m.mem), (SV.v (Value.int IntKind.u64 m.time)), (SV.rd ETy.u8 (List.append m.out [(IntKind.wrap IntKind.u8 (Int.tmod x0 (256 : Int)))])), (SV.v (Value.bool m.halted))])) else (Tree.fail)) else (Tree.fail)) else (Tree.fail)) else (Tree.leaf (SV.agg [(SV.arr IntKind.u32 16 m.core.regs), (SV.v (Value.int IntKind.u32 (IntKind.wrap IntKind.u32 (m.core.pc + (4 : Int))))), (SV.arr IntKind.u32 12 m.core.csr), (SV.rd ETy.u8 m.mem), (SV.v (Value.int IntKind.u64 m.time)), (SV.rd ETy.u8 m.out), (SV.v (Value.bool m.halted))]))))))) := by kernel_rfl
section
attribute [local irreducible] evF evFL evFLs
theorem a_ref12_Do (m : PMach) (i : PInstr) (hpre : m.out.length ≤ 1099511627776) (ok_m : okMach m) (ok_i : okInstr i) : (evF E_ref12_Do 60 48 (encArgs [.mach, .instr] (m, i, ()))).ends fun out_ => decO [.mach] out_ = some (K.priv m i) := by
  rw [t_ref12_Do, Tree.ends_holds]
  obtain ⟨a, b⟩ := okI_i32 ok_i.imm
  have e1 : IntKind.i64.wrap i.imm = i.imm := wrapI64 (by omega) (by omega)
  obtain ⟨g0, g1⟩ := K.get_ok ok_m.core.regs i.ra
  have e2 : Int.tmod (K.get m.core.regs i.ra) 256 = K.get m.core.regs i.ra % 256 := Int.tmod_eq_emod_of_nonneg g0
  simp only [Tree.holds_loop, Tree.holds_fork, Tree.holds_next, if_true, Tree.holds_cond, Tree.holds_letv, Tree.holds_leaf, Tree.holds_fail, decO, decA, decTup, decMach, decCore, decTrap, decInstr, decPart, decGuest, decConf, decEvent, decVcpu, decStep, bytesS, boolS, eventsS, intsS, guestsS, vcpusS, rowS, castL, Option.bind_some, Option.map_some, Option.some.injEq, Nat.beq_refl, beq_self_eq_true, Bool.and_self, cond_true, cond_false, eq_self, e1, e2, wrap8, wrap32, beq_iff_eq, beq_eq_false_iff_ne, bne_iff_ne, bne_eq_false_iff_eq, ne_eq, decide_eq_true_eq, decide_eq_false_iff_not, ble_true, ble_false, inRange_iff, inRange_false, List.drop_zero, Int.ofNat_eq_natCast, Int.toNat_natCast, List.take_length, List.append_eq, Bool.and_eq_true, decide_true, and_true, true_and, Int.emod_emod]
  repeat' (first | refine drop_ok ?_ | intro _ | with_reducible apply And.intro)
  all_goals first | omega | (simp_all [K.priv, K.adv]; done) | skip
  
theorem c_ref12_Do : SpecOk EB 48 S_ref12_Do := spec_sig ok_ref12_Do (n := 60) fun ⟨m, i, ⟨⟩⟩ h hok => a_ref12_Do m i (of_decide_eq_true h) (ok_mach (okSL_head hok)) (ok_instr (okSL_head (okSL_tail hok)))
end

/-! ref11_times -/

def S_ref11_times : Spec := sig [.i .i32, .i .i64] [.i .u32] (fun (n, by_, _) => n * by_ % 4294967296) (pre := fun (n, by_, _) => decide (0 ≤ by_ ∧ by_ ≤ 65536))
noncomputable def E_ref11_times : Env := EB.adds []

theorem ok_ref11_times : EnvOk E_ref11_times := okEB.adds (l := _) trivial
theorem t_ref11_times (n : Int) (by_ : Int) : evF E_ref11_times 60 85 (encArgs [.i .i32, .i .i64] (n, by_, ())) = Tree.leaf (SV.v (Value.int IntKind.u32 (IntKind.wrap IntKind.u32 (Int.tmod (IntKind.wrap IntKind.i64 ((Int.tmod (IntKind.wrap IntKind.i64 ((IntKind.wrap IntKind.i64 n) * by_)) (4294967296 : Int)) + (4294967296 : Int))) (4294967296 : Int))))) := by kernel_rfl
section
attribute [local irreducible] evF evFL evFLs
theorem a_ref11_times (n : Int) (by_ : Int) (hpre : 0 ≤ by_ ∧ by_ ≤ 65536) (ok_n : okI .i32 n) (ok_by_ : okI .i64 by_) : (evF E_ref11_times 60 85 (encArgs [.i .i32, .i .i64] (n, by_, ()))).ends fun out_ => decO [.i .u32] out_ = some (n * by_ % 4294967296) := by
  rw [t_ref11_times, Tree.ends_holds]
  obtain ⟨n0, n1⟩ := okI_i32 ok_n
  have e0 : IntKind.i64.wrap n = n := wrapI64 (by omega) (by omega)
  have hb : -281474976710656 ≤ n * by_ ∧ n * by_ ≤ 281474976710656 := by
    have h1 : n * by_ ≤ 2147483648 * by_ := Int.mul_le_mul_of_nonneg_right (by omega) hpre.1
    have h2 : (-2147483648) * by_ ≤ n * by_ := Int.mul_le_mul_of_nonneg_right (by omega) hpre.1
    omega
  simp only [Tree.holds_loop, Tree.holds_fork, Tree.holds_next, if_true, Tree.holds_cond, Tree.holds_letv, Tree.holds_leaf, Tree.holds_fail, decO, decA, decTup, decMach, decCore, decTrap, decInstr, decPart, decGuest, decConf, decEvent, decVcpu, decStep, bytesS, boolS, eventsS, intsS, guestsS, vcpusS, rowS, castL, Option.bind_some, Option.map_some, Option.some.injEq, Nat.beq_refl, beq_self_eq_true, Bool.and_self, cond_true, cond_false, eq_self, beq_iff_eq, beq_eq_false_iff_ne, bne_iff_ne, bne_eq_false_iff_eq, ne_eq, decide_eq_true_eq, decide_eq_false_iff_not, ble_true, ble_false, inRange_iff, inRange_false, e0]
  generalize n * by_ = z at *
  have e1 : IntKind.i64.wrap by_ = by_ := wrapI64 (by omega) (by omega)
  have e2 : IntKind.i64.wrap z = z := wrapI64 (by omega) (by omega)
  have hm : Int.tmod z 4294967296 = z % 4294967296 ∨ Int.tmod z 4294967296 = z % 4294967296 - 4294967296 := by
    by_cases h : 0 ≤ z
    · exact .inl (Int.tmod_eq_emod_of_nonneg h)
    · rw [Int.tmod_eq_emod]; split <;> simp <;> omega
  have e3 : IntKind.i64.wrap (Int.tmod z 4294967296 + 4294967296) = Int.tmod z 4294967296 + 4294967296 := wrapI64 (by omega) (by omega)
  have e4 : Int.tmod (Int.tmod z 4294967296 + 4294967296) 4294967296 = z % 4294967296 := by
    rw [Int.tmod_eq_emod_of_nonneg (by omega)]; omega
  have e5 : IntKind.u32.wrap (z % 4294967296) = z % 4294967296 := by rw [wrap32]; omega
  simp only [e1, e2, e3, e4, e5]
  repeat' (first | refine drop_ok ?_ | intro _ | with_reducible apply And.intro)
  
theorem c_ref11_times : SpecOk EB 85 S_ref11_times := spec_sig ok_ref11_times (n := 60) fun ⟨n, by_, ⟨⟩⟩ h hok => a_ref11_times n by_ (of_decide_eq_true h) (ok_int (okSL_head hok)) (ok_int (okSL_head (okSL_tail hok)))
end

/-! ref11_put -/

def S_ref11_put : Spec := sig [.mach, .i .i64, .i .u32, .i .u32] [.mach] (fun (m, rd, v, by_, _) => K.wput m rd v ((m.core.pc + by_) % 4294967296))
noncomputable def E_ref11_put : Env := EB.adds [(82, S_ref07_Put)]

theorem ok_ref11_put : EnvOk E_ref11_put := okEB.adds (l := _) ⟨c_ref07_Put, trivial⟩
theorem t_ref11_put (m : PMach) (rd : Int) (v : Int) (by_ : Int) : evF E_ref11_put 60 86 (encArgs [.mach, .i .i64, .i .u32, .i .u32] (m, rd, v, by_, ())) = Tree.letv (okO [(AT.a IntKind.u32 16)]) (K.put m.core.regs rd v) fun x0 => (Tree.leaf (SV.agg [(SV.arr IntKind.u32 16 x0), (SV.v (Value.int IntKind.u32 (IntKind.wrap IntKind.u32 (m.core.pc + by_)))), (SV.arr IntKind.u32 12 m.core.csr), (SV.rd ETy.u8 m.mem), (SV.v (Value.int IntKind.u64 m.time)), (SV.rd ETy.u8 m.out), (SV.v (Value.bool m.halted))])) := by kernel_rfl
section
attribute [local irreducible] evF evFL evFLs
theorem a_ref11_put (m : PMach) (rd : Int) (v : Int) (by_ : Int) (ok_m : okMach m) (ok_rd : okI .i64 rd) (ok_v : okI .u32 v) (ok_by_ : okI .u32 by_) : (evF E_ref11_put 60 86 (encArgs [.mach, .i .i64, .i .u32, .i .u32] (m, rd, v, by_, ()))).ends fun out_ => decO [.mach] out_ = some (K.wput m rd v ((m.core.pc + by_) % 4294967296)) := by
  rw [t_ref11_put, Tree.ends_holds]
  simp only [Tree.holds_loop, Tree.holds_fork, Tree.holds_next, if_true, Tree.holds_cond, Tree.holds_letv, Tree.holds_leaf, Tree.holds_fail, decO, decA, decTup, decMach, decCore, decTrap, decInstr, decPart, decGuest, decConf, decEvent, decVcpu, decStep, bytesS, boolS, eventsS, intsS, guestsS, vcpusS, rowS, castL, Option.bind_some, Option.map_some, Option.some.injEq, Nat.beq_refl, beq_self_eq_true, Bool.and_self, cond_true, cond_false, eq_self, beq_iff_eq, beq_eq_false_iff_ne, bne_iff_ne, bne_eq_false_iff_eq, ne_eq, decide_eq_true_eq, decide_eq_false_iff_not, ble_true, ble_false, inRange_iff, inRange_false, wrap32, K.wput]
  repeat' (first | refine drop_ok ?_ | intro _ | with_reducible apply And.intro)
  all_goals trivial
  
theorem c_ref11_put : SpecOk EB 86 S_ref11_put := spec_sig ok_ref11_put (n := 60) fun ⟨m, rd, v, by_, ⟨⟩⟩ h hok => a_ref11_put m rd v by_ (ok_mach (okSL_head hok)) (ok_int (okSL_head (okSL_tail hok))) (ok_int (okSL_head (okSL_tail (okSL_tail hok)))) (ok_int (okSL_head (okSL_tail (okSL_tail (okSL_tail hok)))))
end

/-! ref08_bitwise -/
@[reducible] def L_ref08_bitwise (op x y : Int) : LoopSpec where
  σ := Nat
  slots := [0, 1, 2, 7, 8]
  keys := []
  vals := fun j => [.v (.int .i64 op), .v (.int .u32 x), .v (.int .u32 y), .v (.int .u64 ((K.bw op x.toNat y.toNat % 2 ^ j : Nat) : Int)), .v (.int .i64 (j : Int))]
  blks := fun _ => []
  inv := fun j => j ≤ 32
  mu := fun j => 32 - j
def S_ref08_bitwise : Spec := sig [.i .i64, .i .u32, .i .u32] [.i .u32] (fun (op, x, y, _) => K.alu op x y) (pre := fun (op, x, y, _) => decide (3 ≤ op ∧ op ≤ 5))
noncomputable def E_ref08_bitwise : Env := EB.adds [(76, S_ref01_Field), (92, S_ref01_Pow)]

theorem ok_ref08_bitwise : EnvOk E_ref08_bitwise := okEB.adds (l := _) ⟨c_ref01_Field, c_ref01_Pow, trivial⟩
theorem t_ref08_bitwise (op : Int) (x : Int) (y : Int) : evFL E_ref08_bitwise (fun _ => some (L_ref08_bitwise op x y)) 60 115 (encArgs [.i .i64, .i .u32, .i .u32] (op, x, y, ())) = Tree.loop 0 (L_ref08_bitwise op x y) [(SV.v (Value.int IntKind.i64 op)), (SV.v (Value.int IntKind.u32 x)), (SV.v (Value.int IntKind.u32 y)), (SV.v (Value.int IntKind.u64 (0 : Int))), (SV.v (Value.int IntKind.i64 (0 : Int)))] [] fun (x0 : Nat) => (bif (decide ((Int.ofNat x0) < (32 : Int))) then (bif (decide (And ((Int.ofNat x0) ≤ (63 : Int)) ((1 : Int) ≤ (63 : Int)))) then (Tree.letv (okO [(AT.i IntKind.u32)]) (K.field x (Int.ofNat x0) (1 : Int)) fun x1 => (bif (BEq.beq x1 (1 : Int)) then (bif (decide (And ((Int.ofNat x0) ≤ (63 : Int)) ((1 : Int) ≤ (63 : Int)))) then (Tree.letv (okO [(AT.i IntKind.u32)]) (K.field y (Int.ofNat x0) (1 : Int)) fun x2 => (bif (BEq.beq x2 (1 : Int)) then (bif (BEq.beq op (3 : Int)) then (bif (decide ((Int.ofNat x0) ≤ (63 : Int))) then (Tree.letv (okO [(AT.i IntKind.u64)]) (K.pow (Int.ofNat x0)) fun x3 => ((Tree.next 0 [(SV.v (Value.int IntKind.i64 op)), (SV.v (Value.int IntKind.u32 x)), (SV.v (Value.int IntKind.u32 y)), (SV.v (Value.int IntKind.u64 (IntKind.wrap IntKind.u64 ((Int.ofNat ((K.bw op (Int.toNat x) (Int.toNat y)) % (2 ^ x0))) + x3)))), (SV.v (Value.int IntKind.i64 (IntKind.wrap IntKind.i64 ((Int.ofNat x0) + (1 : Int)))))] []))) else (Tree.fail)) else (bif (BEq.beq op (4 : Int)) then (bif (decide ((Int.ofNat x0) ≤ (63 : Int))) then (Tree.letv (okO [(AT.i
 IntKind.u64)]) (K.pow (Int.ofNat x0)) fun x3 => ((Tree.next 0 [(SV.v (Value.int IntKind.i64 op)), (SV.v (Value.int IntKind.u32 x)), (SV.v (Value.int IntKind.u32 y)), (SV.v (Value.int IntKind.u64 (IntKind.wrap IntKind.u64 ((Int.ofNat ((K.bw op (Int.toNat x) (Int.toNat y)) % (2 ^ x0))) + x3)))), (SV.v (Value.int IntKind.i64 (IntKind.wrap IntKind.i64 ((Int.ofNat x0) + (1 : Int)))))] []))) else (Tree.fail)) else (bif (BEq.beq op (5 : Int)) then ((Tree.next 0 [(SV.v (Value.int IntKind.i64 op)), (SV.v (Value.int IntKind.u32 x)), (SV.v (Value.int IntKind.u32 y)), (SV.v (Value.int IntKind.u64 (Int.ofNat ((K.bw op (Int.toNat x) (Int.toNat y)) % (2 ^ x0))))), (SV.v (Value.int IntKind.i64 (IntKind.wrap IntKind.i64 ((Int.ofNat x0) + (1 : Int)))))] [])) else ((Tree.next 0 [(SV.v (Value.int IntKind.i64 op)), (SV.v (Value.int IntKind.u32 x)), (SV.v (Value.int IntKind.u32 y)), (SV.v (Value.int IntKind.u64 (Int.ofNat ((K.bw op (Int.toNat x) (Int.toNat y)) % (2 ^ x0))))), (SV.v (Value.int IntKind.i64 (IntKind.wrap IntKind.i64 ((Int.ofNat x0) + (1 : Int)))))] []))))) else (bif (BEq.beq op (3 : Int)) then (bif (BEq.beq op (4 : Int)) then (bif (decide ((Int.ofNat x0) ≤ (63 : Int))) then (Tree.letv (okO [(AT.i IntKind.u64)]) (K.pow (Int.ofNat x0)) fun x3 => ((Tree.next 0 [(SV.v (Value.int IntKind.i64 op)), (SV.v (Value.int IntKind.u32 x)), (SV.v (Value.int IntKind.u32 y)), (SV.v (Value.int IntKind.u64 (IntKind.wrap IntKind.u64 ((Int.ofNat ((K.bw op (Int.toNat x) (Int.toNat y)) % (2 ^ x0))) +
 x3)))), (SV.v (Value.int IntKind.i64 (IntKind.wrap IntKind.i64 ((Int.ofNat x0) + (1 : Int)))))] []))) else (Tree.fail)) else (bif (BEq.beq op (5 : Int)) then (bif (decide ((Int.ofNat x0) ≤ (63 : Int))) then (Tree.letv (okO [(AT.i IntKind.u64)]) (K.pow (Int.ofNat x0)) fun x3 => ((Tree.next 0 [(SV.v (Value.int IntKind.i64 op)), (SV.v (Value.int IntKind.u32 x)), (SV.v (Value.int IntKind.u32 y)), (SV.v (Value.int IntKind.u64 (IntKind.wrap IntKind.u64 ((Int.ofNat ((K.bw op (Int.toNat x) (Int.toNat y)) % (2 ^ x0))) + x3)))), (SV.v (Value.int IntKind.i64 (IntKind.wrap IntKind.i64 ((Int.ofNat x0) + (1 : Int)))))] []))) else (Tree.fail)) else ((Tree.next 0 [(SV.v (Value.int IntKind.i64 op)), (SV.v (Value.int IntKind.u32 x)), (SV.v (Value.int IntKind.u32 y)), (SV.v (Value.int IntKind.u64 (Int.ofNat ((K.bw op (Int.toNat x) (Int.toNat y)) % (2 ^ x0))))), (SV.v (Value.int IntKind.i64 (IntKind.wrap IntKind.i64 ((Int.ofNat x0) + (1 : Int)))))] [])))) else (bif (BEq.beq op (4 : Int)) then (bif (decide ((Int.ofNat x0) ≤ (63 : Int))) then (Tree.letv (okO [(AT.i IntKind.u64)]) (K.pow (Int.ofNat x0)) fun x3 => ((Tree.next 0 [(SV.v (Value.int IntKind.i64 op)), (SV.v (Value.int IntKind.u32 x)), (SV.v (Value.int IntKind.u32 y)), (SV.v (Value.int IntKind.u64 (IntKind.wrap IntKind.u64 ((Int.ofNat ((K.bw op (Int.toNat x) (Int.toNat y)) % (2 ^ x0))) + x3)))), (SV.v (Value.int IntKind.i64 (IntKind.wrap IntKind.i64 ((Int.ofNat x0) + (1 : Int)))))] []))) else (Tree.fail)) else (bif (BEq.beq op (5 : Int))
 then (bif (decide ((Int.ofNat x0) ≤ (63 : Int))) then (Tree.letv (okO [(AT.i IntKind.u64)]) (K.pow (Int.ofNat x0)) fun x3 => ((Tree.next 0 [(SV.v (Value.int IntKind.i64 op)), (SV.v (Value.int IntKind.u32 x)), (SV.v (Value.int IntKind.u32 y)), (SV.v (Value.int IntKind.u64 (IntKind.wrap IntKind.u64 ((Int.ofNat ((K.bw op (Int.toNat x) (Int.toNat y)) % (2 ^ x0))) + x3)))), (SV.v (Value.int IntKind.i64 (IntKind.wrap IntKind.i64 ((Int.ofNat x0) + (1 : Int)))))] []))) else (Tree.fail)) else ((Tree.next 0 [(SV.v (Value.int IntKind.i64 op)), (SV.v (Value.int IntKind.u32 x)), (SV.v (Value.int IntKind.u32 y)), (SV.v (Value.int IntKind.u64 (Int.ofNat ((K.bw op (Int.toNat x) (Int.toNat y)) % (2 ^ x0))))), (SV.v (Value.int IntKind.i64 (IntKind.wrap IntKind.i64 ((Int.ofNat x0) + (1 : Int)))))] []))))))) else (Tree.fail)) else (bif (decide (And ((Int.ofNat x0) ≤ (63 : Int)) ((1 : Int) ≤ (63 : Int)))) then (Tree.letv (okO [(AT.i IntKind.u32)]) (K.field y (Int.ofNat x0) (1 : Int)) fun x2 => (bif (BEq.beq x2 (1 : Int)) then (bif (BEq.beq op (3 : Int)) then (bif (BEq.beq op (4 : Int)) then (bif (decide ((Int.ofNat x0) ≤ (63 : Int))) then (Tree.letv (okO [(AT.i IntKind.u64)]) (K.pow (Int.ofNat x0)) fun x3 => ((Tree.next 0 [(SV.v (Value.int IntKind.i64 op)), (SV.v (Value.int IntKind.u32 x)), (SV.v (Value.int IntKind.u32 y)), (SV.v (Value.int IntKind.u64 (IntKind.wrap IntKind.u64 ((Int.ofNat ((K.bw op (Int.toNat x) (Int.toNat y)) % (2 ^ x0))) + x3)))), (SV.v (Value.int IntKind.i64 (IntKind.wrap
 IntKind.i64 ((Int.ofNat x0) + (1 : Int)))))] []))) else (Tree.fail)) else (bif (BEq.beq op (5 : Int)) then (bif (decide ((Int.ofNat x0) ≤ (63 : Int))) then (Tree.letv (okO [(AT.i IntKind.u64)]) (K.pow (Int.ofNat x0)) fun x3 => ((Tree.next 0 [(SV.v (Value.int IntKind.i64 op)), (SV.v (Value.int IntKind.u32 x)), (SV.v (Value.int IntKind.u32 y)), (SV.v (Value.int IntKind.u64 (IntKind.wrap IntKind.u64 ((Int.ofNat ((K.bw op (Int.toNat x) (Int.toNat y)) % (2 ^ x0))) + x3)))), (SV.v (Value.int IntKind.i64 (IntKind.wrap IntKind.i64 ((Int.ofNat x0) + (1 : Int)))))] []))) else (Tree.fail)) else ((Tree.next 0 [(SV.v (Value.int IntKind.i64 op)), (SV.v (Value.int IntKind.u32 x)), (SV.v (Value.int IntKind.u32 y)), (SV.v (Value.int IntKind.u64 (Int.ofNat ((K.bw op (Int.toNat x) (Int.toNat y)) % (2 ^ x0))))), (SV.v (Value.int IntKind.i64 (IntKind.wrap IntKind.i64 ((Int.ofNat x0) + (1 : Int)))))] [])))) else (bif (BEq.beq op (4 : Int)) then (bif (decide ((Int.ofNat x0) ≤ (63 : Int))) then (Tree.letv (okO [(AT.i IntKind.u64)]) (K.pow (Int.ofNat x0)) fun x3 => ((Tree.next 0 [(SV.v (Value.int IntKind.i64 op)), (SV.v (Value.int IntKind.u32 x)), (SV.v (Value.int IntKind.u32 y)), (SV.v (Value.int IntKind.u64 (IntKind.wrap IntKind.u64 ((Int.ofNat ((K.bw op (Int.toNat x) (Int.toNat y)) % (2 ^ x0))) + x3)))), (SV.v (Value.int IntKind.i64 (IntKind.wrap IntKind.i64 ((Int.ofNat x0) + (1 : Int)))))] []))) else (Tree.fail)) else (bif (BEq.beq op (5 : Int)) then (bif (decide ((Int.ofNat x0) ≤ (63 : Int)))
 then (Tree.letv (okO [(AT.i IntKind.u64)]) (K.pow (Int.ofNat x0)) fun x3 => ((Tree.next 0 [(SV.v (Value.int IntKind.i64 op)), (SV.v (Value.int IntKind.u32 x)), (SV.v (Value.int IntKind.u32 y)), (SV.v (Value.int IntKind.u64 (IntKind.wrap IntKind.u64 ((Int.ofNat ((K.bw op (Int.toNat x) (Int.toNat y)) % (2 ^ x0))) + x3)))), (SV.v (Value.int IntKind.i64 (IntKind.wrap IntKind.i64 ((Int.ofNat x0) + (1 : Int)))))] []))) else (Tree.fail)) else ((Tree.next 0 [(SV.v (Value.int IntKind.i64 op)), (SV.v (Value.int IntKind.u32 x)), (SV.v (Value.int IntKind.u32 y)), (SV.v (Value.int IntKind.u64 (Int.ofNat ((K.bw op (Int.toNat x) (Int.toNat y)) % (2 ^ x0))))), (SV.v (Value.int IntKind.i64 (IntKind.wrap IntKind.i64 ((Int.ofNat x0) + (1 : Int)))))] []))))) else (bif (BEq.beq op (3 : Int)) then (bif (BEq.beq op (4 : Int)) then (bif (BEq.beq op (5 : Int)) then ((Tree.next 0 [(SV.v (Value.int IntKind.i64 op)), (SV.v (Value.int IntKind.u32 x)), (SV.v (Value.int IntKind.u32 y)), (SV.v (Value.int IntKind.u64 (Int.ofNat ((K.bw op (Int.toNat x) (Int.toNat y)) % (2 ^ x0))))), (SV.v (Value.int IntKind.i64 (IntKind.wrap IntKind.i64 ((Int.ofNat x0) + (1 : Int)))))] [])) else ((Tree.next 0 [(SV.v (Value.int IntKind.i64 op)), (SV.v (Value.int IntKind.u32 x)), (SV.v (Value.int IntKind.u32 y)), (SV.v (Value.int IntKind.u64 (Int.ofNat ((K.bw op (Int.toNat x) (Int.toNat y)) % (2 ^ x0))))), (SV.v (Value.int IntKind.i64 (IntKind.wrap IntKind.i64 ((Int.ofNat x0) + (1 : Int)))))] []))) else (bif (BEq.beq op (5 :
 Int)) then ((Tree.next 0 [(SV.v (Value.int IntKind.i64 op)), (SV.v (Value.int IntKind.u32 x)), (SV.v (Value.int IntKind.u32 y)), (SV.v (Value.int IntKind.u64 (Int.ofNat ((K.bw op (Int.toNat x) (Int.toNat y)) % (2 ^ x0))))), (SV.v (Value.int IntKind.i64 (IntKind.wrap IntKind.i64 ((Int.ofNat x0) + (1 : Int)))))] [])) else ((Tree.next 0 [(SV.v (Value.int IntKind.i64 op)), (SV.v (Value.int IntKind.u32 x)), (SV.v (Value.int IntKind.u32 y)), (SV.v (Value.int IntKind.u64 (Int.ofNat ((K.bw op (Int.toNat x) (Int.toNat y)) % (2 ^ x0))))), (SV.v (Value.int IntKind.i64 (IntKind.wrap IntKind.i64 ((Int.ofNat x0) + (1 : Int)))))] [])))) else (bif (BEq.beq op (4 : Int)) then (bif (BEq.beq op (5 : Int)) then ((Tree.next 0 [(SV.v (Value.int IntKind.i64 op)), (SV.v (Value.int IntKind.u32 x)), (SV.v (Value.int IntKind.u32 y)), (SV.v (Value.int IntKind.u64 (Int.ofNat ((K.bw op (Int.toNat x) (Int.toNat y)) % (2 ^ x0))))), (SV.v (Value.int IntKind.i64 (IntKind.wrap IntKind.i64 ((Int.ofNat x0) + (1 : Int)))))] [])) else ((Tree.next 0 [(SV.v (Value.int IntKind.i64 op)), (SV.v (Value.int IntKind.u32 x)), (SV.v (Value.int IntKind.u32 y)), (SV.v (Value.int IntKind.u64 (Int.ofNat ((K.bw op (Int.toNat x) (Int.toNat y)) % (2 ^ x0))))), (SV.v (Value.int IntKind.i64 (IntKind.wrap IntKind.i64 ((Int.ofNat x0) + (1 : Int)))))] []))) else (bif (BEq.beq op (5 : Int)) then ((Tree.next 0 [(SV.v (Value.int IntKind.i64 op)), (SV.v (Value.int IntKind.u32 x)), (SV.v (Value.int IntKind.u32 y)), (SV.v (Value.int
 IntKind.u64 (Int.ofNat ((K.bw op (Int.toNat x) (Int.toNat y)) % (2 ^ x0))))), (SV.v (Value.int IntKind.i64 (IntKind.wrap IntKind.i64 ((Int.ofNat x0) + (1 : Int)))))] [])) else ((Tree.next 0 [(SV.v (Value.int IntKind.i64 op)), (SV.v (Value.int IntKind.u32 x)), (SV.v (Value.int IntKind.u32 y)), (SV.v (Value.int IntKind.u64 (Int.ofNat ((K.bw op (Int.toNat x) (Int.toNat y)) % (2 ^ x0))))), (SV.v (Value.int IntKind.i64 (IntKind.wrap IntKind.i64 ((Int.ofNat x0) + (1 : Int)))))] []))))))) else (Tree.fail)))) else (Tree.fail)) else (Tree.leaf (SV.v (Value.int IntKind.u32 (IntKind.wrap IntKind.u32 (Int.ofNat ((K.bw op (Int.toNat x) (Int.toNat y)) % (2 ^ x0)))))))) := by kernel_rfl
section
attribute [local irreducible] evF evFL evFLs
theorem a_ref08_bitwise (op : Int) (x : Int) (y : Int) (hpre : 3 ≤ op ∧ op ≤ 5) (ok_op : okI .i64 op) (ok_x : okI .u32 x) (ok_y : okI .u32 y) : (evFL E_ref08_bitwise (fun _ => some (L_ref08_bitwise op x y)) 60 115 (encArgs [.i .i64, .i .u32, .i .u32] (op, x, y, ()))).ends fun out_ => decO [.i .u32] out_ = some (K.alu op x y) := by
  rw [t_ref08_bitwise, Tree.ends_holds]
  obtain ⟨x0, x1⟩ := okI_u32 ok_x
  obtain ⟨y0, y1⟩ := okI_u32 ok_y
  obtain ⟨x, rfl⟩ := Int.eq_ofNat_of_zero_le x0
  obtain ⟨y, rfl⟩ := Int.eq_ofNat_of_zero_le y0
  have hT := bw_lt (op := op) (a := x) (b := y) (by omega) (by omega)
  have hbit := fun i => bw_bit op x y i
  rw [alu_bw hpre (by omega) (by omega)]
  simp only [Tree.holds_loop]
  refine ⟨⟨(0 : Nat), by simp [Nat.mod_one], rfl, Nat.zero_le _, trivial⟩, fun (j : Nat) (hj : j ≤ 32) => ?_⟩
  have nx : j < 32 → ∀ z : Int, z = ((K.bw op x y % 2 ^ (j + 1) : Nat) : Int) → (L_ref08_bitwise op x y).at (fun y_1 => (L_ref08_bitwise op x y).mu y_1 < (L_ref08_bitwise op x y).mu j) [SV.v (.int .i64 op), .v (.int .u32 (x : Int)), .v (.int .u32 (y : Int)), .v (.int .u64 z), .v (.int .i64 (IntKind.i64.wrap ((j : Int) + 1)))] [] := fun h z hz => by
    have e2 : IntKind.i64.wrap ((j : Int) + 1) = ((j + 1 : Nat) : Int) := by rw [wrapI64 (by omega) (by omega)]; rfl
    refine ⟨j + 1, ?_, rfl, ?_, ?_⟩
    · rw [hz, e2]; rfl
    · show j + 1 ≤ 32; omega
    · show 32 - (j + 1) < 32 - j; omega
  have hb := hbit j
  have hm := bit_more_aux (K.bw op x y) j
  have hlt : K.bw op x y % 2 ^ j < 2 ^ j := Nat.mod_lt _ (Nat.two_pow_pos j)
  have h2 := pow_le32 hj
  have t1 : (K.bw op x y).testBit j = true → j < 32 → IntKind.u64.wrap (((K.bw op x y % 2 ^ j : Nat) : Int) + K.pow (j : Int)) = ((K.bw op x y % 2 ^ (j + 1) : Nat) : Int) := fun h hj => by
    rw [hm, h]; unfold K.pow; rw [wrap64]; simp only [Bool.toNat_true, Int.toNat_natCast]; omega
  have t0 : (K.bw op x y).testBit j = false → ((K.bw op x y % 2 ^ j : Nat) : Int) = ((K.bw op x y % 2 ^ (j + 1) : Nat) : Int) := fun h => by
    rw [hm, h]; simp
  simp only [Tree.holds_loop, Tree.holds_fork, Tree.holds_next, if_true, Tree.holds_cond, Tree.holds_letv, Tree.holds_leaf, Tree.holds_fail, decO, decA, decTup, decMach, decCore, decTrap, decInstr, decPart, decGuest, decConf, decEvent, decVcpu, decStep, bytesS, boolS, eventsS, intsS, guestsS, vcpusS, rowS, castL, Option.bind_some, Option.map_some, Option.some.injEq, Nat.beq_refl, beq_self_eq_true, Bool.and_self, cond_true, cond_false, eq_self, beq_iff_eq, beq_eq_false_iff_ne, bne_iff_ne, bne_eq_false_iff_eq, ne_eq, decide_eq_true_eq, decide_eq_false_iff_not, ble_true, ble_false, inRange_iff, inRange_false, Int.ofNat_eq_natCast, Int.toNat_natCast, field_bit]
  generalize hX : x.testBit j = bx at *
  generalize hY : y.testBit j = bY at *
  generalize hZ : (K.bw op x y).testBit j = bz at *
  clear hX hY hZ hbit hm
  have fin : ¬ j < 32 → IntKind.u32.wrap ((K.bw op x y % 2 ^ j : Nat) : Int) = ((K.bw op x y : Nat) : Int) := fun h => by
    have : j = 32 := by omega
    subst this
    rw [Nat.mod_eq_of_lt (show K.bw op x y < 2 ^ 32 by omega), wrap32]; omega
  clear hlt
  generalize ((K.bw op x y % 2 ^ j : Nat) : Int) = A at *
  generalize ((K.bw op x y % 2 ^ (j + 1) : Nat) : Int) = B at *
  generalize ((K.bw op x y : Nat) : Int) = C at *
  have h3 : op = 3 ∨ op = 4 ∨ op = 5 := by omega
  rcases h3 with rfl | rfl | rfl <;> cases bx <;> cases bY <;> simp at hb <;> subst hb <;> simp at t1 t0 ⊢ <;>
    (repeat' (first | intro _ | with_reducible apply And.intro)) <;> (try intros) <;> first | omega | exact nx (by omega) _ (t1 (by omega)) | exact nx (by omega) _ t0 | (rw [fin (by omega)]) | trace_state
  
theorem c_ref08_bitwise : SpecOk EB 115 S_ref08_bitwise := spec_sigL ok_ref08_bitwise (n := 60) (fun (op, x, y, _) => fun _ => some (L_ref08_bitwise op x y)) fun ⟨op, x, y, ⟨⟩⟩ h hok => a_ref08_bitwise op x y (of_decide_eq_true h) (ok_int (okSL_head hok)) (ok_int (okSL_head (okSL_tail hok))) (ok_int (okSL_head (okSL_tail (okSL_tail hok))))
end

/-! ref08_signed -/

def S_ref08_signed : Spec := sig [.i .u32] [.i .i64] (fun (x, _) => K.sgn x)
noncomputable def E_ref08_signed : Env := EB.adds []

theorem ok_ref08_signed : EnvOk E_ref08_signed := okEB.adds (l := _) trivial
theorem t_ref08_signed (x : Int) : evF E_ref08_signed 60 116 (encArgs [.i .u32] (x, ())) = bif (decide (x ≥ (2147483648 : Int))) then (Tree.leaf (SV.v (Value.int IntKind.i64 (IntKind.wrap IntKind.i64 ((IntKind.wrap IntKind.i64 x) - (4294967296 : Int)))))) else (Tree.leaf (SV.v (Value.int IntKind.i64 (IntKind.wrap IntKind.i64 x)))) := by kernel_rfl
section
attribute [local irreducible] evF evFL evFLs
theorem a_ref08_signed (x : Int) (ok_x : okI .u32 x) : (evF E_ref08_signed 60 116 (encArgs [.i .u32] (x, ()))).ends fun out_ => decO [.i .i64] out_ = some (K.sgn x) := by
  rw [t_ref08_signed, Tree.ends_holds]
  obtain ⟨x0, x1⟩ := okI_u32 ok_x
  have e1 : IntKind.i64.wrap x = x := wrapI64 (by omega) (by omega)
  have e2 : IntKind.i64.wrap (x - 4294967296) = x - 4294967296 := wrapI64 (by omega) (by omega)
  simp only [Tree.holds_loop, Tree.holds_fork, Tree.holds_next, if_true, Tree.holds_cond, Tree.holds_letv, Tree.holds_leaf, Tree.holds_fail, decO, decA, decTup, decMach, decCore, decTrap, decInstr, decPart, decGuest, decConf, decEvent, decVcpu, decStep, bytesS, boolS, eventsS, intsS, guestsS, vcpusS, rowS, castL, Option.bind_some, Option.map_some, Option.some.injEq, Nat.beq_refl, beq_self_eq_true, Bool.and_self, cond_true, cond_false, eq_self, beq_iff_eq, beq_eq_false_iff_ne, bne_iff_ne, bne_eq_false_iff_eq, ne_eq, decide_eq_true_eq, decide_eq_false_iff_not, ble_true, ble_false, inRange_iff, inRange_false, K.sgn, e1, e2]
  repeat' (first | refine drop_ok ?_ | intro _ | with_reducible apply And.intro)
  all_goals first | (rw [if_pos (by omega)]; done) | (rw [if_neg (by omega)]; done)
  
theorem c_ref08_signed : SpecOk EB 116 S_ref08_signed := spec_sig ok_ref08_signed (n := 60) fun ⟨x, ⟨⟩⟩ h hok => a_ref08_signed x (ok_int (okSL_head hok))
end

/-! ref08_Do -/

def S_ref08_Do : Spec := sig [.i .i64, .i .u32, .i .u32] [.i .u32] (fun (op, x, y, _) => K.alu op x y)
noncomputable def E_ref08_Do : Env := EB.adds [(115, S_ref08_bitwise), (116, S_ref08_signed), (92, S_ref01_Pow)]

theorem ok_ref08_Do : EnvOk E_ref08_Do := okEB.adds (l := _) ⟨c_ref08_bitwise, c_ref08_signed, c_ref01_Pow, trivial⟩
theorem t_ref08_Do (op : Int) (x : Int) (y : Int) : evF E_ref08_Do 60 87 (encArgs [.i .i64, .i .u32, .i .u32] (op, x, y, ())) = bif (BEq.beq op (1 : Int)) then (Tree.leaf (SV.v (Value.int IntKind.u32 (IntKind.wrap IntKind.u32 (Int.tmod (IntKind.wrap IntKind.u64 ((IntKind.wrap IntKind.u64 x) + (IntKind.wrap IntKind.u64 y))) (4294967296 : Int)))))) else (bif (BEq.beq op (2 : Int)) then (Tree.leaf (SV.v (Value.int IntKind.u32 (IntKind.wrap IntKind.u32 (Int.tmod (IntKind.wrap IntKind.u64 ((IntKind.wrap IntKind.u64 ((IntKind.wrap IntKind.u64 x) + (4294967296 : Int))) - (IntKind.wrap IntKind.u64 y))) (4294967296 : Int)))))) else (bif (BEq.beq op (3 : Int)) then (bif (decide (And ((3 : Int) ≤ op) (op ≤ (5 : Int)))) then (Tree.letv (okO [(AT.i IntKind.u32)]) (K.alu op x y) fun x0 => (Tree.leaf (SV.v (Value.int IntKind.u32 x0)))) else (Tree.fail)) else (bif (BEq.beq op (4 : Int)) then (bif (decide (And ((3 : Int) ≤ op) (op ≤ (5 : Int)))) then (Tree.letv (okO [(AT.i IntKind.u32)]) (K.alu op x y) fun x0 => (Tree.leaf (SV.v (Value.int IntKind.u32 x0)))) else (Tree.fail)) else (bif (BEq.beq op (5 : Int)) then (bif (decide (And ((3 : Int) ≤ op) (op ≤ (5 : Int)))) then (Tree.letv (okO [(AT.i IntKind.u32)]) (K.alu op x y) fun x0 => (Tree.leaf (SV.v (Value.int IntKind.u32 x0)))) else (Tree.fail)) else (bif (BEq.beq op (6 : Int)) then (Tree.letv (okO [(AT.i IntKind.i64)]) (K.sgn x) fun x0 => (Tree.letv (okO [(AT.i IntKind.i64)]) (K.sgn y) fun x1 => (bif (decide (x0 < x1)) then (Tree.leaf (SV.v
 (Value.int IntKind.u32 (1 : Int)))) else (Tree.leaf (SV.v (Value.int IntKind.u32 (0 : Int))))))) else (bif (BEq.beq op (7 : Int)) then (bif (decide ((IntKind.wrap IntKind.i64 (Int.tmod y (32 : Int))) ≤ (63 : Int))) then (Tree.letv (okO [(AT.i IntKind.u64)]) (K.pow (IntKind.wrap IntKind.i64 (Int.tmod y (32 : Int)))) fun x0 => (Tree.leaf (SV.v (Value.int IntKind.u32 (IntKind.wrap IntKind.u32 (Int.tmod (IntKind.wrap IntKind.u64 ((IntKind.wrap IntKind.u64 x) * x0)) (4294967296 : Int))))))) else (Tree.fail)) else (bif (BEq.beq op (8 : Int)) then (bif (decide ((IntKind.wrap IntKind.i64 (Int.tmod y (32 : Int))) ≤ (63 : Int))) then (Tree.letv (okO [(AT.i IntKind.u64)]) (K.pow (IntKind.wrap IntKind.i64 (Int.tmod y (32 : Int)))) fun x0 => (bif (bne x0 (0 : Int)) then (Tree.leaf (SV.v (Value.int IntKind.u32 (IntKind.wrap IntKind.u32 (IntKind.wrap IntKind.u64 (Int.tdiv (IntKind.wrap IntKind.u64 x) x0)))))) else (Tree.fail))) else (Tree.fail)) else (Tree.leaf (SV.v (Value.int IntKind.u32 (0 : Int))))))))))) := by kernel_rfl
section
attribute [local irreducible] evF evFL evFLs
theorem a_ref08_Do (op : Int) (x : Int) (y : Int) (ok_op : okI .i64 op) (ok_x : okI .u32 x) (ok_y : okI .u32 y) : (evF E_ref08_Do 60 87 (encArgs [.i .i64, .i .u32, .i .u32] (op, x, y, ()))).ends fun out_ => decO [.i .u32] out_ = some (K.alu op x y) := by
  rw [t_ref08_Do, Tree.ends_holds]
  obtain ⟨x0, x1⟩ := okI_u32 ok_x
  obtain ⟨y0, y1⟩ := okI_u32 ok_y
  have p0 := K.pow_pos (y % 32)
  have p1 := K.pow_le (n := y % 32) (by omega)
  have d0 : Int.tmod y 32 = y % 32 := Int.tmod_eq_emod_of_nonneg y0
  have d1 : IntKind.i64.wrap (y % 32) = y % 32 := wrapI64 (by omega) (by omega)
  have q1 : x / K.pow (y % 32) ≤ x := Int.ediv_le_self _ x0
  have q0 : 0 ≤ x / K.pow (y % 32) := Int.ediv_nonneg x0 (by omega)
  have e1 : IntKind.u32.wrap (Int.tmod (IntKind.u64.wrap (IntKind.u64.wrap x + IntKind.u64.wrap y)) 4294967296) = (x + y) % 4294967296 := by
    rw [wrap64, wrap64, wrap64, wrap32, Int.tmod_eq_emod_of_nonneg (by omega)]; omega
  have e2 : IntKind.u32.wrap (Int.tmod (IntKind.u64.wrap (IntKind.u64.wrap (IntKind.u64.wrap x + 4294967296) - IntKind.u64.wrap y)) 4294967296) = (x - y) % 4294967296 := by
    rw [wrap64, wrap64, wrap64, wrap64, wrap32, Int.tmod_eq_emod_of_nonneg (by omega)]; omega
  have e7 : IntKind.u32.wrap (Int.tmod (IntKind.u64.wrap (IntKind.u64.wrap x * K.pow (y % 32))) 4294967296) = x * K.pow (y % 32) % 4294967296 := by
    rw [wrap64, wrap64, wrap32, Int.emod_eq_of_lt (a := x) (by omega) (by omega), Int.tmod_eq_emod_of_nonneg (by omega)]; omega
  have e8 : IntKind.u32.wrap (IntKind.u64.wrap (Int.tdiv (IntKind.u64.wrap x) (K.pow (y % 32)))) = x / K.pow (y % 32) := by
    rw [wrap64, wrap64, Int.emod_eq_of_lt (a := x) (by omega) (by omega), Int.tdiv_eq_ediv_of_nonneg x0, wrap32]; omega
  simp only [Tree.holds_loop, Tree.holds_fork, Tree.holds_next, if_true, Tree.holds_cond, Tree.holds_letv, Tree.holds_leaf, Tree.holds_fail, decO, decA, decTup, decMach, decCore, decTrap, decInstr, decPart, decGuest, decConf, decEvent, decVcpu, decStep, bytesS, boolS, eventsS, intsS, guestsS, vcpusS, rowS, castL, Option.bind_some, Option.map_some, Option.some.injEq, Nat.beq_refl, beq_self_eq_true, Bool.and_self, cond_true, cond_false, eq_self, beq_iff_eq, beq_eq_false_iff_ne, bne_iff_ne, bne_eq_false_iff_eq, ne_eq, decide_eq_true_eq, decide_eq_false_iff_not, ble_true, ble_false, inRange_iff, inRange_false, d0, d1, e1, e2, e7, e8]
  clear e1 e2 e7 e8
  unfold K.alu
  repeat' (first | refine drop_ok ?_ | intro _ | with_reducible apply And.intro)
  all_goals first | omega | (simp_all; done) | (simp_all; omega) | (subst_vars; simp_all; done) | ((repeat' split) <;> first | omega | rfl | (simp_all; done))
  
theorem c_ref08_Do : SpecOk EB 87 S_ref08_Do := spec_sig ok_ref08_Do (n := 60) fun ⟨op, x, y, ⟨⟩⟩ h hok => a_ref08_Do op x y (ok_int (okSL_head hok)) (ok_int (okSL_head (okSL_tail hok))) (ok_int (okSL_head (okSL_tail (okSL_tail hok))))
end

/-! ref05_Store -/

def S_ref05_Store : Spec := sig [.rd .u8, .i .u32, .i .i64, .i .u32] [.rd .u8, .b] (fun (m, a, n, v, _) => if K.inR m.length a n = true then (K.st m a n v, true) else (m, false)) (pre := fun (m, a, n, v, _) => decide ((n = 1 ∨ n = 4) ∧ m.length ≤ 1099511627776))
noncomputable def E_ref05_Store : Env := EB.adds [(53, S_ref05_There)]

theorem ok_ref05_Store : EnvOk E_ref05_Store := okEB.adds (l := _) ⟨c_ref05_There, trivial⟩
theorem t1_c_ref05_Store (m : List Int) (a v : Int) : evF E_ref05_Store 60 26 [.rd .u8 m, .v (.int .u32 a), .v (.int .i64 1), .v (.int .u32 v)] = 
  bif (decide (And ((0 : Int) ≤ (1 : Int)) (And ((1 : Int) ≤ (1099511627776 : Int)) ((0 : Int) ≤ (Int.ofNat (List.length m)))))) then
    (Tree.letv (okO [AT.b]) (K.inR (Int.ofNat (List.length m)) a (1 : Int)) fun x0 =>
    (bif x0 then
      (bif (Bool.or (Bool.not (Nat.beq (List.length m) 0)) true) then
        (bif (Nat.ble ((0 + (List.length m)) * 1) 140737488355328) then
          (bif (inRange (IntKind.wrap IntKind.i64 ((IntKind.wrap IntKind.i64 a) + (0 : Int))) (List.length m)) then
            (Tree.leaf (SV.tup [(SV.rd ETy.u8 (List.set m (Int.toNat (IntKind.wrap IntKind.i64 ((IntKind.wrap IntKind.i64 a) + (0 : Int)))) (IntKind.wrap IntKind.u8 (Int.tmod v (256 : Int))))), (SV.b true)]))
          else
            (Tree.fail))
        else
          (Tree.fail))
      else
        (Tree.fail))
    else
      (Tree.leaf (SV.tup [(SV.rd ETy.u8 m), (SV.b false)]))))
  else
    (Tree.fail) := by kernel_rfl
theorem t4_c_ref05_Store (m : List Int) (a v : Int) : evF E_ref05_Store 60 26 [.rd .u8 m, .v (.int .u32 a), .v (.int .i64 4), .v (.int .u32 v)] = 
  bif (decide (And ((0 : Int) ≤ (4 : Int)) (And ((4 : Int) ≤ (1099511627776 : Int)) ((0 : Int) ≤ (Int.ofNat (List.length m)))))) then
    (Tree.letv (okO [AT.b]) (K.inR (Int.ofNat (List.length m)) a (4 : Int)) fun x0 =>
    (bif x0 then
      (bif (Bool.or (Bool.not (Nat.beq (List.length m) 0)) true) then
        (bif (Nat.ble ((0 + (List.length m)) * 1) 140737488355328) then
          (bif (inRange (IntKind.wrap IntKind.i64 ((IntKind.wrap IntKind.i64 a) + (0 : Int))) (List.length m)) then
            (bif (inRange (IntKind.wrap IntKind.i64 ((IntKind.wrap IntKind.i64 a) + (1 : Int))) (List.length (List.set m (Int.toNat (IntKind.wrap IntKind.i64 ((IntKind.wrap IntKind.i64 a) + (0 : Int)))) (IntKind.wrap IntKind.u8 (Int.tmod v (256 : Int)))))) then
              (bif (inRange (IntKind.wrap IntKind.i64 ((IntKind.wrap IntKind.i64 a) + (2 : Int))) (List.length (List.set (List.set m (Int.toNat (IntKind.wrap IntKind.i64 ((IntKind.wrap IntKind.i64 a) + (0 : Int)))) (IntKind.wrap IntKind.u8 (Int.tmod v (256 : Int)))) (Int.toNat (IntKind.wrap IntKind.i64 ((IntKind.wrap IntKind.i64 a) + (1 : Int)))) (IntKind.wrap IntKind.u8 (Int.tmod (IntKind.wrap IntKind.u32 (Int.tdiv v (256 : Int))) (256 : Int)))))) then
                (bif (inRange (IntKind.wrap IntKind.i64 ((IntKind.wrap IntKind.i64 a) + (3 : Int))) (List.length (List.set (List.set (List.set m (Int.toNat (IntKind.wrap IntKind.i64 ((IntKind.wrap IntKind.i64 a) + (0 : Int)))) (IntKind.wrap IntKind.u8 (Int.tmod v (256 : Int)))) (Int.toNat (IntKind.wrap IntKind.i64 ((IntKind.wrap IntKind.i64 a) + (1 : Int)))) (IntKind.wrap IntKind.u8 (Int.tmod (IntKind.wrap IntKind.u32 (Int.tdiv v (256 : Int))) (256 : Int)))) (Int.toNat (IntKind.wrap IntKind.i64 ((IntKind.wrap IntKind.i64 a) + (2 : Int)))) (IntKind.wrap IntKind.u8 (Int.tmod (IntKind.wrap IntKind.u32 (Int.tdiv (IntKind.wrap IntKind.u32 (Int.tdiv v (256 : Int))) (256 : Int))) (256 : Int)))))) then
                  (Tree.leaf (SV.tup [(SV.rd ETy.u8 (List.set (List.set (List.set (List.set m (Int.toNat (IntKind.wrap IntKind.i64 ((IntKind.wrap IntKind.i64 a) + (0 : Int)))) (IntKind.wrap IntKind.u8 (Int.tmod v (256 : Int)))) (Int.toNat (IntKind.wrap IntKind.i64 ((IntKind.wrap IntKind.i64 a) + (1 : Int)))) (IntKind.wrap IntKind.u8 (Int.tmod (IntKind.wrap IntKind.u32 (Int.tdiv v (256 : Int))) (256 : Int)))) (Int.toNat (IntKind.wrap IntKind.i64 ((IntKind.wrap IntKind.i64 a) + (2 : Int)))) (IntKind.wrap IntKind.u8 (Int.tmod (IntKind.wrap IntKind.u32 (Int.tdiv (IntKind.wrap IntKind.u32 (Int.tdiv v (256 : Int))) (256 : Int))) (256 : Int)))) (Int.toNat (IntKind.wrap IntKind.i64 ((IntKind.wrap IntKind.i64 a) + (3 : Int)))) (IntKind.wrap IntKind.u8 (Int.tmod (IntKind.wrap IntKind.u32 (Int.tdiv (IntKind.wrap IntKind.u32 (Int.tdiv (IntKind.wrap IntKind.u32 (Int.tdiv v (256 : Int))) (256 : Int))) (256 : Int))) (256 : Int))))), (SV.b true)]))
                else
                  (Tree.fail))
              else
                (Tree.fail))
            else
              (Tree.fail))
          else
            (Tree.fail))
        else
          (Tree.fail))
      else
        (Tree.fail))
    else
      (Tree.leaf (SV.tup [(SV.rd ETy.u8 m), (SV.b false)]))))
  else
    (Tree.fail) := by kernel_rfl
theorem a1_c_ref05_Store (m : List Int) (a v : Int) (hm : m.length ≤ 1099511627776) (ok_m : okBytes m) (ok_a : okI .u32 a) (ok_v : okI .u32 v) : (evF E_ref05_Store 60 26 [.rd .u8 m, .v (.int .u32 a), .v (.int .i64 1), .v (.int .u32 v)]).ends fun out_ => decO [.rd .u8, .b] out_ = some (if K.inR m.length a 1 = true then (K.st m a 1 v, true) else (m, false)) := by
  rw [t1_c_ref05_Store, Tree.ends_holds]
  obtain ⟨a0, a1⟩ := okI_u32 ok_a
  obtain ⟨v0, v1⟩ := okI_u32 ok_v
  have ew : IntKind.i64.wrap a = a := wrapI64 (by omega) (by omega)
  have i0 : IntKind.i64.wrap (a + 0) = a := by rw [wrapI64 (by omega) (by omega)]; omega
  have hr : K.inR m.length a 1 = true ↔ a + 1 ≤ (m.length : Int) := by simp [K.inR]
  have d0 : Int.tmod v 256 = v % 256 := Int.tmod_eq_emod_of_nonneg v0
  have d1 : v % 256 % 256 = v % 256 := by omega
  simp only [Tree.holds_loop, Tree.holds_fork, Tree.holds_next, if_true, Tree.holds_cond, Tree.holds_letv, Tree.holds_leaf, Tree.holds_fail, decO, decA, decTup, decMach, decCore, decTrap, decInstr, decPart, decGuest, decConf, decEvent, decVcpu, decStep, bytesS, boolS, eventsS, intsS, guestsS, vcpusS, rowS, castL, Option.bind_some, Option.map_some, Option.some.injEq, Nat.beq_refl, beq_self_eq_true, Bool.and_self, cond_true, cond_false, eq_self, beq_iff_eq, beq_eq_false_iff_ne, bne_iff_ne, bne_eq_false_iff_eq, ne_eq, decide_eq_true_eq, decide_eq_false_iff_not, ble_true, ble_false, inRange_iff, inRange_false, Int.ofNat_eq_natCast, ew, i0, wrap8, d0, d1]
  repeat' (first | refine drop_ok ?_ | intro _ | with_reducible apply And.intro)
  all_goals first | (rw [if_pos (by assumption)]; rfl) | (rw [if_neg (by simp_all)]; done) | omega | (exfalso; have := hr.1 (by assumption); omega) | (rename_i z; simp at z; done) | trace_state
theorem a4_c_ref05_Store (m : List Int) (a v : Int) (hm : m.length ≤ 1099511627776) (ok_m : okBytes m) (ok_a : okI .u32 a) (ok_v : okI .u32 v) : (evF E_ref05_Store 60 26 [.rd .u8 m, .v (.int .u32 a), .v (.int .i64 4), .v (.int .u32 v)]).ends fun out_ => decO [.rd .u8, .b] out_ = some (if K.inR m.length a 4 = true then (K.st m a 4 v, true) else (m, false)) := by
  rw [t4_c_ref05_Store, Tree.ends_holds]
  obtain ⟨a0, a1⟩ := okI_u32 ok_a
  obtain ⟨v0, v1⟩ := okI_u32 ok_v
  have ew : IntKind.i64.wrap a = a := wrapI64 (by omega) (by omega)
  have i0 : IntKind.i64.wrap (a + 0) = a := by rw [wrapI64 (by omega) (by omega)]; omega
  have i1 : IntKind.i64.wrap (a + 1) = a + 1 := wrapI64 (by omega) (by omega)
  have i2 : IntKind.i64.wrap (a + 2) = a + 2 := wrapI64 (by omega) (by omega)
  have i3 : IntKind.i64.wrap (a + 3) = a + 3 := wrapI64 (by omega) (by omega)
  have n1 : (a + 1).toNat = a.toNat + 1 := by omega
  have n2 : (a + 2).toNat = a.toNat + 2 := by omega
  have n3 : (a + 3).toNat = a.toNat + 3 := by omega
  have hr : K.inR m.length a 4 = true ↔ a + 4 ≤ (m.length : Int) := by simp [K.inR]
  have q1 : IntKind.u32.wrap (Int.tdiv v 256) = v / 256 := by rw [Int.tdiv_eq_ediv_of_nonneg v0, wrap32]; omega
  have q2 : IntKind.u32.wrap (Int.tdiv (v / 256) 256) = v / 65536 := by rw [Int.tdiv_eq_ediv_of_nonneg (by omega), wrap32]; omega
  have q3 : IntKind.u32.wrap (Int.tdiv (v / 65536) 256) = v / 16777216 := by rw [Int.tdiv_eq_ediv_of_nonneg (by omega), wrap32]; omega
  have d0 : Int.tmod v 256 % 256 = v % 256 := by rw [Int.tmod_eq_emod_of_nonneg v0]; omega
  have d1 : Int.tmod (v / 256) 256 % 256 = v / 256 % 256 := by rw [Int.tmod_eq_emod_of_nonneg (by omega)]; omega
  have d2 : Int.tmod (v / 65536) 256 % 256 = v / 65536 % 256 := by rw [Int.tmod_eq_emod_of_nonneg (by omega)]; omega
  have d3 : Int.tmod (v / 16777216) 256 % 256 = v / 16777216 % 256 := by rw [Int.tmod_eq_emod_of_nonneg (by omega)]; omega
  simp only [Tree.holds_loop, Tree.holds_fork, Tree.holds_next, if_true, Tree.holds_cond, Tree.holds_letv, Tree.holds_leaf, Tree.holds_fail, decO, decA, decTup, decMach, decCore, decTrap, decInstr, decPart, decGuest, decConf, decEvent, decVcpu, decStep, bytesS, boolS, eventsS, intsS, guestsS, vcpusS, rowS, castL, Option.bind_some, Option.map_some, Option.some.injEq, Nat.beq_refl, beq_self_eq_true, Bool.and_self, cond_true, cond_false, eq_self, beq_iff_eq, beq_eq_false_iff_ne, bne_iff_ne, bne_eq_false_iff_eq, ne_eq, decide_eq_true_eq, decide_eq_false_iff_not, ble_true, ble_false, inRange_iff, inRange_false, Int.ofNat_eq_natCast, ew, i0, i1, i2, i3, n1, n2, n3, wrap8, q1, q2, q3, d0, d1, d2, d3, List.length_set]
  repeat' (first | refine drop_ok ?_ | intro _ | with_reducible apply And.intro)
  all_goals first | (rw [if_pos (by assumption)]; rfl) | (rw [if_neg (by simp_all)]; done) | omega | (exfalso; have := hr.1 (by assumption); omega) | (rename_i z; simp at z; done) | trace_state
theorem c_ref05_Store : SpecOk EB 26 S_ref05_Store := spec_sig ok_ref05_Store (n := 60) fun ⟨m, a, n, v, ⟨⟩⟩ h hok => by
  have h := of_decide_eq_true h
  have o1 := ok_bytes (okSL_head hok)
  have o2 := ok_int (okSL_head (okSL_tail hok))
  have o3 := ok_int (okSL_head (okSL_tail (okSL_tail (okSL_tail hok))))
  rcases h with ⟨h | h, hm⟩
  · have h : n = 1 := h
    subst h; exact a1_c_ref05_Store m a v hm o1 o2 o3
  · have h : n = 4 := h
    subst h; exact a4_c_ref05_Store m a v hm o1 o2 o3


end Go.Proofs.YtmbmahgaejcjiaaGreatDoor
