/- Contracts of functions, by evaluation (nothing is claimed here). -/
import Derived.Test.YtnhokcnnhmkbhaaGreatDoorSh29
import Derived.KernelRfl
import Derived.Test.YtnhokcnnhmkbhaaGreatDoorProg
import Derived.Test.YtnhokcnnhmkbhaaGreatDoorHandlerHandledTrapIsOneStepB2
set_option linter.unusedVariables false
set_option linter.unusedSimpArgs false
set_option maxRecDepth 100000
set_option maxHeartbeats 1000000
namespace Go.Proofs.YtnhokcnnhmkbhaaGreatDoor
open Go
/-! ref04_Write -/
def K.wTo (c : List Int) (n v : Int) (j : Nat) : Int := ((K.mix (c.getD n.toNat 0) v (K.mask n)).toNat % 2 ^ j : Nat)
@[reducible] def L_ref04_Write (c : List Int) (n v : Int) : LoopSpec where
  σ := Nat
  slots := [1, 2, 3, 6, 7, 8, 9]
  keys := [3, 6]
  vals := fun j => [.v (.int .i64 n), .v (.int .u32 v), .loc 0 0 0 1, .loc 1 0 0 1, .v (.int .u32 (K.wTo c n v j)), .v (.int .u32 (((2 ^ j : Nat) : Int) % 4294967296)), .v (.int .i64 (j : Int))]
  blks := fun _ => [.cells [.arr .u32 12 c] 24, .cells [.arr .u32 12 [0, 0, 0, 0, 0, 0, 0, 0, 0, 0, 0, 0]] 24]
  inv := fun j => j ≤ 32
  mu := fun j => 32 - j
def S_ref04_Write : Spec := sig [.a .u32 12, .i .i64, .i .u32] [.a .u32 12] (fun (c, n, v, _) => K.csrWrite c n v)
noncomputable def E_ref04_Write : Env := EB.adds [(67, S_ref04_Writable)]

theorem ok_ref04_Write : EnvOk E_ref04_Write := okEB.adds (l := _) ⟨c_ref04_Writable, trivial⟩

theorem t_ref04_Write (c : List Int) (n : Int) (v : Int) : evFL E_ref04_Write (fun _ => some (L_ref04_Write c n v)) 60 35 (encArgs [.a .u32 12, .i .i64, .i .u32] (c, n, v, ())) = 
  bif (decide (n < (0 : Int))) then
    (Tree.leaf (SV.agg [(SV.arr IntKind.u32 12 c)]))
  else
    (bif (decide (n > (11 : Int))) then
      (Tree.leaf (SV.agg [(SV.arr IntKind.u32 12 c)]))
    else
      (Tree.loop 0 (L_ref04_Write c n v) [(SV.v (Value.int IntKind.i64 n)), (SV.v (Value.int IntKind.u32 v)), (SV.loc 0 0 0 1), (SV.loc 1 0 0 1), (SV.v (Value.int IntKind.u32 (0 : Int))), (SV.v (Value.int IntKind.u32 (1 : Int))), (SV.v (Value.int IntKind.i64 (0 : Int)))] [(Blk.cells [(SV.arr IntKind.u32 12 c)] 24), (Blk.cells [(SV.arr IntKind.u32 12 [(0 : Int), (0 : Int), (0 : Int), (0 : Int), (0 : Int), (0 : Int), (0 : Int), (0 : Int), (0 : Int), (0 : Int), (0 : Int), (0 : Int)])] 24)] fun (x0 : Nat) =>
      (bif (decide ((Int.ofNat x0) < (32 : Int))) then
        (bif (inRange n 12) then
          (bif (bne ((Int.ofNat (2 ^ x0)) % (4294967296 : Int)) (0 : Int)) then
            (Tree.letv (okO [AT.b]) (K.wrB n (Int.ofNat x0)) fun x1 =>
            (bif x1 then
              (bif (bne ((Int.ofNat (2 ^ x0)) % (4294967296 : Int)) (0 : Int)) then
                ((Tree.next 0 [(SV.v (Value.int IntKind.i64 n)), (SV.v (Value.int IntKind.u32 v)), (SV.loc 0 0 0 1), (SV.loc 1 0 0 1), (SV.v (Value.int IntKind.u32 (IntKind.wrap IntKind.u32 ((K.wTo c n v x0) + (IntKind.wrap IntKind.u32 ((Int.tmod (IntKind.wrap IntKind.u32 (Int.tdiv v ((Int.ofNat (2 ^ x0)) % (4294967296 : Int)))) (2 : Int)) * ((Int.ofNat (2 ^ x0)) % (4294967296 : Int)))))))), (SV.v (Value.int IntKind.u32 (IntKind.wrap IntKind.u32 (((Int.ofNat (2 ^ x0)) % (4294967296 : Int)) * (2 : Int))))), (SV.v (Value.int IntKind.i64 (IntKind.wrap IntKind.i64 ((Int.ofNat x0) + (1 : Int)))))] [(Blk.cells [(SV.arr IntKind.u32 12 c)] 24), (Blk.cells [(SV.arr IntKind.u32 12 [(0 : Int), (0 : Int), (0 : Int), (0 : Int), (0 : Int), (0 : Int), (0 : Int), (0 : Int), (0 : Int), (0 : Int), (0 : Int), (0 : Int)])] 24)]))
              else
                (Tree.fail))
            else
              ((Tree.next 0 [(SV.v (Value.int IntKind.i64 n)), (SV.v (Value.int IntKind.u32 v)), (SV.loc 0 0 0 1), (SV.loc 1 0 0 1), (SV.v (Value.int IntKind.u32 (IntKind.wrap IntKind.u32 ((K.wTo c n v x0) + (IntKind.wrap IntKind.u32 ((Int.tmod (IntKind.wrap IntKind.u32 (Int.tdiv (List.getD c ((Int.toNat n)) (0 : Int)) ((Int.ofNat (2 ^ x0)) % (4294967296 : Int)))) (2 : Int)) * ((Int.ofNat (2 ^ x0)) % (4294967296 : Int)))))))), (SV.v (Value.int IntKind.u32 (IntKind.wrap IntKind.u32 (((Int.ofNat (2 ^ x0)) % (4294967296 : Int)) * (2 : Int))))), (SV.v (Value.int IntKind.i64 (IntKind.wrap IntKind.i64 ((Int.ofNat x0) + (1 : Int)))))] [(Blk.cells [(SV.arr IntKind.u32 12 c)] 24), (Blk.cells [(SV.arr IntKind.u32 12 [(0 : Int), (0 : Int), (0 : Int), (0 : Int), (0 : Int), (0 : Int), (0 : Int), (0 : Int), (0 : Int), (0 : Int), (0 : Int), (0 : Int)])] 24)]))))
          else
            (Tree.fail))
        else
          (Tree.fail))
      else
        (bif (inRange n 12) then
          (Tree.leaf (SV.agg [(SV.arr IntKind.u32 12 (List.set c ((Int.toNat n)) (K.wTo c n v x0)))]))
        else
          (Tree.fail))))) := by kernel_rfl
section
attribute [local irreducible] evF evFL
theorem a_ref04_Write (c : List Int) (n : Int) (v : Int) (ok_c : okL .u32 12 c) (ok_n : okI .i64 n) (ok_v : okI .u32 v) : (evFL E_ref04_Write (fun _ => some (L_ref04_Write c n v)) 60 35 (encArgs [.a .u32 12, .i .i64, .i .u32] (c, n, v, ()))).ends fun out_ => decO [.a .u32 12] out_ = some (K.csrWrite c n v) := by
  rw [t_ref04_Write, Tree.ends_holds]
  obtain ⟨v0, v1⟩ := okI_u32 ok_v
  simp only [Tree.holds_cond, Tree.holds_leaf, Tree.holds_loop]
  refine ⟨fun h => ?_, fun h0 => ⟨fun h => ?_, fun h1 => ?_⟩⟩
  · have h : n < 0 := by simpa using h
    simp only [decO, decA, decTup, decMach, decCore, decTrap, decInstr, decPart, decGuest, decConf, decEvent, decVcpu, decStep, bytesS, boolS, eventsS, intsS, guestsS, vcpusS, rowS, castL, Option.bind_some, Option.map_some, Option.some.injEq, Nat.beq_refl, beq_self_eq_true, Bool.and_self, cond_true, cond_false, eq_self, K.csrWrite]; rw [if_neg (by omega)]
  · have h : n > 11 := by simpa using h
    simp only [decO, decA, decTup, decMach, decCore, decTrap, decInstr, decPart, decGuest, decConf, decEvent, decVcpu, decStep, bytesS, boolS, eventsS, intsS, guestsS, vcpusS, rowS, castL, Option.bind_some, Option.map_some, Option.some.injEq, Nat.beq_refl, beq_self_eq_true, Bool.and_self, cond_true, cond_false, eq_self, K.csrWrite]; rw [if_neg (by omega)]
  have n0 : 0 ≤ n := by simp at h0; omega
  have n1 : n < 12 := by simp at h1; omega
  have hr : inRange n 12 = true := inRange_iff.2 ⟨n0, n1⟩
  obtain ⟨x0, x1⟩ := ok_c.u32 (i := n.toNat) (by omega)
  obtain ⟨m0, m1⟩ := K.mask_ok n
  have ok2 := K.mix_ok x0 x1 v0 v1 m0 m1
  have hm : K.mask n = K.mk.getD n.toNat 0 := by unfold K.mask; rw [if_pos ⟨n0, n1⟩]
  have hbit : ∀ i : Nat, (K.mix (c.getD n.toNat 0) v (K.mask n)).toNat.testBit i = (if (K.mask n).toNat.testBit i then v.toNat.testBit i else (c.getD n.toNat 0).toNat.testBit i) := fun i => by
    have := mix_nat (x := (c.getD n.toNat 0).toNat) (v := v.toNat) (m := (K.mask n).toNat) (by omega) (by omega) (by omega)
    rw [Int.toNat_of_nonneg x0, Int.toNat_of_nonneg v0, Int.toNat_of_nonneg m0] at this
    rw [this, Int.toNat_natCast, mix_bit (by omega) (by omega)]
  have hfin : K.csrWrite c n v = c.set n.toNat (K.mix (c.getD n.toNat 0) v (K.mask n)) := by unfold K.csrWrite; rw [if_pos ⟨n0, n1⟩, hm]
  refine ⟨⟨(0 : Nat), by simp [K.wTo, Nat.mod_one], rfl, Nat.zero_le _, trivial⟩, fun (j : Nat) (hj : j ≤ 32) => ?_⟩
  simp only [Tree.holds_loop, Tree.holds_fork, Tree.holds_next, if_true, Tree.holds_cond, Tree.holds_letv, Tree.holds_leaf, Tree.holds_fail]
  have hwr := fun (h : j < 32) => wrB_bit (n := n) h
  have hw : ∀ i, K.wTo c n v i = (((K.mix (c.getD n.toNat 0) v (K.mask n)).toNat % 2 ^ i : Nat) : Int) := fun _ => rfl
  rw [hfin]
  generalize hX : (c.getD n.toNat 0) = X at *
  generalize hMM : K.mask n = m at *
  generalize hTT : K.mix X v m = T at *
  refine ⟨fun h => ?_, fun h => ?_⟩
  · have hlt : j < 32 := by simp at h; omega
    have h2 := pow_le32 (i := j) (by omega)
    have h3 : 2 ^ j ≤ 2147483648 := by
      have : 2 ^ j ≤ 2 ^ 31 := Nat.pow_le_pow_right (by omega) (by omega)
      omega
    have hp := Nat.two_pow_pos j
    have e2 : IntKind.i64.wrap ((j : Int) + 1) = ((j + 1 : Nat) : Int) := by rw [wrapI64 (by omega) (by omega)]; rfl
    have e3 : (((2 ^ j : Nat) : Int) % 4294967296) = ((2 ^ j : Nat) : Int) := by omega
    have e4 : IntKind.u32.wrap (((2 ^ j : Nat) : Int) * 2) = (((2 ^ (j + 1) : Nat) : Int) % 4294967296) := by rw [wrap32, Nat.pow_succ]; omega
    have hne : ((((2 ^ j : Nat) : Int)) != 0) = true := bne_iff_ne.2 (by omega)
    have key : ∀ x : Int, 0 ≤ x → x < 4294967296 → x.toNat.testBit j = T.toNat.testBit j →
        IntKind.u32.wrap (K.wTo c n v j + IntKind.u32.wrap ((Int.tmod (IntKind.u32.wrap (Int.tdiv x ((2 ^ j : Nat) : Int))) 2) * ((2 ^ j : Nat) : Int))) = K.wTo c n v (j + 1) := fun x a0 a1 hb => by
      obtain ⟨x, rfl⟩ := Int.eq_ofNat_of_zero_le a0
      rw [Int.toNat_natCast] at hb
      rw [hw, hw, bit_more_aux, ← hb, Nat.toNat_testBit]
      have b1 : Int.tdiv (x : Int) ((2 ^ j : Nat) : Int) = ((x / 2 ^ j : Nat) : Int) := by rw [Int.tdiv_eq_ediv_of_nonneg (by omega)]; rfl
      have b2 : x / 2 ^ j ≤ x := Nat.div_le_self _ _
      have hz0 : x / 2 ^ j % 2 < 2 := Nat.mod_lt _ (by omega)
      have b3 : T.toNat % 2 ^ j < 2 ^ j := Nat.mod_lt _ hp
      have b4 : IntKind.u32.wrap ((x / 2 ^ j : Nat) : Int) = ((x / 2 ^ j : Nat) : Int) := by
        generalize x / 2 ^ j = y at *
        rw [wrap32]; omega
      have b5 : Int.tmod ((x / 2 ^ j : Nat) : Int) 2 = ((x / 2 ^ j % 2 : Nat) : Int) := by rw [Int.tmod_eq_emod_of_nonneg (Int.natCast_nonneg _)]; rfl
      rw [b1, b4, b5, wrap32, wrap32]
      generalize x / 2 ^ j % 2 = z at *
      have hz : z = 0 ∨ z = 1 := by omega
      generalize T.toNat % 2 ^ j = y at *
      generalize 2 ^ j = q at *
      rcases hz with rfl | rfl
      · simp only [Int.natCast_zero, Int.zero_mul, Nat.mul_zero]; omega
      · simp only [Int.natCast_one, Int.one_mul, Nat.mul_one]; omega
    have nx : ∀ z : Int, z = K.wTo c n v (j + 1) → (L_ref04_Write c n v).at (fun y => (L_ref04_Write c n v).mu y < (L_ref04_Write c n v).mu j) [SV.v (.int .i64 n), .v (.int .u32 v), .loc 0 0 0 1, .loc 1 0 0 1, .v (.int .u32 z), .v (.int .u32 (IntKind.u32.wrap (((2 ^ j : Nat) : Int) * 2))), .v (.int .i64 (IntKind.i64.wrap ((j : Int) + 1)))] [.cells [.arr .u32 12 c] 24, .cells [.arr .u32 12 [0, 0, 0, 0, 0, 0, 0, 0, 0, 0, 0, 0]] 24] := fun z hz => by
      refine ⟨j + 1, ?_, rfl, ?_, ?_⟩
      · rw [hz, e2, e4]
      · show j + 1 ≤ 32; omega
      · show 32 - (j + 1) < 32 - j; omega
    have hb := hbit j
    have hwr := hwr hlt
    simp only [Int.ofNat_eq_natCast] at *
    rw [hwr]
    simp only [e3, hne, hr, true_implies, Bool.true_eq_false, false_implies, and_true]
    intro _
    refine ⟨fun q => ?_, fun q => ?_⟩
    · rw [q] at hb
      exact nx _ (key v v0 v1 (by simpa using hb.symm))
    · rw [q] at hb
      refine nx _ (key X x0 x1 (by simpa using hb.symm))
  · have : j = 32 := by simp at h; omega
    subst this
    have e : K.wTo c n v 32 = T := by
      rw [hw, Nat.mod_eq_of_lt (show T.toNat < 2 ^ 32 by omega), Int.toNat_of_nonneg ok2.1]
    rw [e, hr]
    simp [decO, decA, decTup, decMach, decCore, decTrap, decInstr, decPart, decGuest, decConf, decEvent, decVcpu, decStep, bytesS, boolS, eventsS, intsS, guestsS, vcpusS, rowS, castL, Option.bind_some, Option.map_some, Option.some.injEq, Nat.beq_refl, beq_self_eq_true, Bool.and_self, cond_true, cond_false, eq_self]
  
  
theorem c_ref04_Write : SpecOk EB 35 S_ref04_Write := spec_sigL ok_ref04_Write (n := 60) (fun (c, n, v, _) => fun _ => some (L_ref04_Write c n v)) fun ⟨c, n, v, ⟨⟩⟩ h hok => a_ref04_Write c n v (ok_arr (okSL_head hok)) (ok_int (okSL_head (okSL_tail hok))) (ok_int (okSL_head (okSL_tail (okSL_tail hok))))
end

/-! ref12_Do -/

def S_ref12_Do : Spec := sig [.mach, .instr] [.mach] (fun (m, i, _) => K.priv m i) (pre := fun (m, i, _) => decide (m.out.length ≤ 1099511627776))
noncomputable def E_ref12_Do : Env := EB.adds [(31, S_ref07_Get), (33, S_ref07_Put), (32, S_ref09_Return), (34, S_ref04_Read), (35, S_ref04_Write)]

theorem ok_ref12_Do : EnvOk E_ref12_Do := okEB.adds (l := _) ⟨c_ref07_Get, c_ref07_Put, c_ref09_Return, c_ref04_Read, c_ref04_Write, trivial⟩

theorem t_ref12_Do (m : PMach) (i : PInstr) : evF E_ref12_Do 60 19 (encArgs [.mach, .instr] (m, i, ())) = 
  Tree.letv (okO [(AT.i IntKind.u32)]) (K.get m.core.regs i.ra) fun x0 =>
  (bif (BEq.beq i.op (23 : Int)) then
    (Tree.letv (okO [AT.core]) (K.ret m.core) fun x1 =>
    (Tree.leaf (SV.agg [(SV.arr IntKind.u32 16 x1.regs), (SV.v (Value.int IntKind.u32 x1.pc)), (SV.arr IntKind.u32 12 x1.csr), (SV.rd ETy.u8 m.mem), (SV.v (Value.int IntKind.u64 m.time)), (SV.rd ETy.u8 m.out), (SV.v (Value.bool m.halted))])))
  else
    (bif (BEq.beq i.op (21 : Int)) then
      (Tree.letv (okO [(AT.i IntKind.u32)]) (K.csrRead m.core.csr m.time (IntKind.wrap IntKind.i64 i.imm)) fun x1 =>
      (Tree.letv (okO [(AT.a IntKind.u32 16)]) (K.put m.core.regs i.rd x1) fun x2 =>
      (bif (BEq.beq i.op (22 : Int)) then
        (Tree.letv (okO [(AT.a IntKind.u32 12)]) (K.csrWrite m.core.csr (IntKind.wrap IntKind.i64 i.imm) x0) fun x3 =>
        (bif (BEq.beq i.op (24 : Int)) then
          (bif (BEq.beq i.op (25 : Int)) then
            (bif (Bool.or (Bool.not (Nat.beq (List.length m.out) 0)) true) then
              (bif (Nat.ble ((0 + (List.length m.out)) * 1) 140737488355328) then
                (bif (Nat.ble (((List.length m.out) + 1) * 1) 140737488355328) then
                  (Tree.leaf (SV.agg [(SV.arr IntKind.u32 16 x2), (SV.v (Value.int IntKind.u32 (IntKind.wrap IntKind.u32 (m.core.pc + (4 : Int))))), (SV.arr IntKind.u32 12 x3), (SV.rd ETy.u8 m.mem), (SV.v (Value.int IntKind.u64 m.time)), (SV.rd ETy.u8 (List.append m.out [(IntKind.wrap IntKind.u8 (Int.tmod x0 (256 : Int)))])), (SV.b true)]))
                else
                  (Tree.fail))
              else
                (Tree.fail))
            else
              (Tree.fail))
          else
            (Tree.leaf (SV.agg [(SV.arr IntKind.u32 16 x2), (SV.v (Value.int IntKind.u32 (IntKind.wrap IntKind.u32 (m.core.pc + (4 : Int))))), (SV.arr IntKind.u32 12 x3), (SV.rd ETy.u8 m.mem), (SV.v (Value.int IntKind.u64 m.time)), (SV.rd ETy.u8 m.out), (SV.b true)])))
        else
          (bif (BEq.beq i.op (25 : Int)) then
            (bif (Bool.or (Bool.not (Nat.beq (List.length m.out) 0)) true) then
              (bif (Nat.ble ((0 + (List.length m.out)) * 1) 140737488355328) then
                (bif (Nat.ble (((List.length m.out) + 1) * 1) 140737488355328) then
                  (Tree.leaf (SV.agg [(SV.arr IntKind.u32 16 x2), (SV.v (Value.int IntKind.u32 (IntKind.wrap IntKind.u32 (m.core.pc + (4 : Int))))), (SV.arr IntKind.u32 12 x3), (SV.rd ETy.u8 m.mem), (SV.v (Value.int IntKind.u64 m.time)), (SV.rd ETy.u8 (List.append m.out [(IntKind.wrap IntKind.u8 (Int.tmod x0 (256 : Int)))])), (SV.v (Value.bool m.halted))]))
                else
                  (Tree.fail))
              else
                (Tree.fail))
            else
              (Tree.fail))
          else
            (Tree.leaf (SV.agg [(SV.arr IntKind.u32 16 x2), (SV.v (Value.int IntKind.u32 (IntKind.wrap IntKind.u32 (m.core.pc + (4 : Int))))), (SV.arr IntKind.u32 12 x3), (SV.rd ETy.u8 m.mem), (SV.v (Value.int IntKind.u64 m.time)), (SV.rd ETy.u8 m.out), (SV.v (Value.bool m.halted))])))))
      else
        (bif (BEq.beq i.op (24 : Int)) then
          (bif (BEq.beq i.op (25 : Int)) then
            (bif (Bool.or (Bool.not (Nat.beq (List.length m.out) 0)) true) then
              (bif (Nat.ble ((0 + (List.length m.out)) * 1) 140737488355328) then
                (bif (Nat.ble (((List.length m.out) + 1) * 1) 140737488355328) then
                  (Tree.leaf (SV.agg [(SV.arr IntKind.u32 16 x2), (SV.v (Value.int IntKind.u32 (IntKind.wrap IntKind.u32 (m.core.pc + (4 : Int))))), (SV.arr IntKind.u32 12 m.core.csr), (SV.rd ETy.u8 m.mem), (SV.v (Value.int IntKind.u64 m.time)), (SV.rd ETy.u8 (List.append m.out [(IntKind.wrap IntKind.u8 (Int.tmod x0 (256 : Int)))])), (SV.b true)]))
                else
                  (Tree.fail))
              else
                (Tree.fail))
            else
              (Tree.fail))
          else
            (Tree.leaf (SV.agg [(SV.arr IntKind.u32 16 x2), (SV.v (Value.int IntKind.u32 (IntKind.wrap IntKind.u32 (m.core.pc + (4 : Int))))), (SV.arr IntKind.u32 12 m.core.csr), (SV.rd ETy.u8 m.mem), (SV.v (Value.int IntKind.u64 m.time)), (SV.rd ETy.u8 m.out), (SV.b true)])))
        else
          (bif (BEq.beq i.op (25 : Int)) then
            (bif (Bool.or (Bool.not (Nat.beq (List.length m.out) 0)) true) then
              (bif (Nat.ble ((0 + (List.length m.out)) * 1) 140737488355328) then
                (bif (Nat.ble (((List.length m.out) + 1) * 1) 140737488355328) then
                  (Tree.leaf (SV.agg [(SV.arr IntKind.u32 16 x2), (SV.v (Value.int IntKind.u32 (IntKind.wrap IntKind.u32 (m.core.pc + (4 : Int))))), (SV.arr IntKind.u32 12 m.core.csr), (SV.rd ETy.u8 m.mem), (SV.v (Value.int IntKind.u64 m.time)), (SV.rd ETy.u8 (List.append m.out [(IntKind.wrap IntKind.u8 (Int.tmod x0 (256 : Int)))])), (SV.v (Value.bool m.halted))]))
                else
                  (Tree.fail))
              else
                (Tree.fail))
            else
              (Tree.fail))
          else
            (Tree.leaf (SV.agg [(SV.arr IntKind.u32 16 x2), (SV.v (Value.int IntKind.u32 (IntKind.wrap IntKind.u32 (m.core.pc + (4 : Int))))), (SV.arr IntKind.u32 12 m.core.csr), (SV.rd ETy.u8 m.mem), (SV.v (Value.int IntKind.u64 m.time)), (SV.rd ETy.u8 m.out), (SV.v (Value.bool m.halted))])))))))
    else
      (bif (BEq.beq i.op (22 : Int)) then
        (Tree.letv (okO [(AT.a IntKind.u32 12)]) (K.csrWrite m.core.csr (IntKind.wrap IntKind.i64 i.imm) x0) fun x1 =>
        (bif (BEq.beq i.op (24 : Int)) then
          (bif (BEq.beq i.op (25 : Int)) then
            (bif (Bool.or (Bool.not (Nat.beq (List.length m.out) 0)) true) then
              (bif (Nat.ble ((0 + (List.length m.out)) * 1) 140737488355328) then
                (bif (Nat.ble (((List.length m.out) + 1) * 1) 140737488355328) then
                  (Tree.leaf (SV.agg [(SV.arr IntKind.u32 16 m.core.regs), (SV.v (Value.int IntKind.u32 (IntKind.wrap IntKind.u32 (m.core.pc + (4 : Int))))), (SV.arr IntKind.u32 12 x1), (SV.rd ETy.u8 m.mem), (SV.v (Value.int IntKind.u64 m.time)), (SV.rd ETy.u8 (List.append m.out [(IntKind.wrap IntKind.u8 (Int.tmod x0 (256 : Int)))])), (SV.b true)]))
                else
                  (Tree.fail))
              else
                (Tree.fail))
            else
              (Tree.fail))
          else
            (Tree.leaf (SV.agg [(SV.arr IntKind.u32 16 m.core.regs), (SV.v (Value.int IntKind.u32 (IntKind.wrap IntKind.u32 (m.core.pc + (4 : Int))))), (SV.arr IntKind.u32 12 x1), (SV.rd ETy.u8 m.mem), (SV.v (Value.int IntKind.u64 m.time)), (SV.rd ETy.u8 m.out), (SV.b true)])))
        else
          (bif (BEq.beq i.op (25 : Int)) then
            (bif (Bool.or (Bool.not (Nat.beq (List.length m.out) 0)) true) then
              (bif (Nat.ble ((0 + (List.length m.out)) * 1) 140737488355328) then
                (bif (Nat.ble (((List.length m.out) + 1) * 1) 140737488355328) then
                  (Tree.leaf (SV.agg [(SV.arr IntKind.u32 16 m.core.regs), (SV.v (Value.int IntKind.u32 (IntKind.wrap IntKind.u32 (m.core.pc + (4 : Int))))), (SV.arr IntKind.u32 12 x1), (SV.rd ETy.u8 m.mem), (SV.v (Value.int IntKind.u64 m.time)), (SV.rd ETy.u8 (List.append m.out [(IntKind.wrap IntKind.u8 (Int.tmod x0 (256 : Int)))])), (SV.v (Value.bool m.halted))]))
                else
                  (Tree.fail))
              else
                (Tree.fail))
            else
              (Tree.fail))
          else
            (Tree.leaf (SV.agg [(SV.arr IntKind.u32 16 m.core.regs), (SV.v (Value.int IntKind.u32 (IntKind.wrap IntKind.u32 (m.core.pc + (4 : Int))))), (SV.arr IntKind.u32 12 x1), (SV.rd ETy.u8 m.mem), (SV.v (Value.int IntKind.u64 m.time)), (SV.rd ETy.u8 m.out), (SV.v (Value.bool m.halted))])))))
      else
        (bif (BEq.beq i.op (24 : Int)) then
          (bif (BEq.beq i.op (25 : Int)) then
            (bif (Bool.or (Bool.not (Nat.beq (List.length m.out) 0)) true) then
              (bif (Nat.ble ((0 + (List.length m.out)) * 1) 140737488355328) then
                (bif (Nat.ble (((List.length m.out) + 1) * 1) 140737488355328) then
                  (Tree.leaf (SV.agg [(SV.arr IntKind.u32 16 m.core.regs), (SV.v (Value.int IntKind.u32 (IntKind.wrap IntKind.u32 (m.core.pc + (4 : Int))))), (SV.arr IntKind.u32 12 m.core.csr), (SV.rd ETy.u8 m.mem), (SV.v (Value.int IntKind.u64 m.time)), (SV.rd ETy.u8 (List.append m.out [(IntKind.wrap IntKind.u8 (Int.tmod x0 (256 : Int)))])), (SV.b true)]))
                else
                  (Tree.fail))
              else
                (Tree.fail))
            else
              (Tree.fail))
          else
            (Tree.leaf (SV.agg [(SV.arr IntKind.u32 16 m.core.regs), (SV.v (Value.int IntKind.u32 (IntKind.wrap IntKind.u32 (m.core.pc + (4 : Int))))), (SV.arr IntKind.u32 12 m.core.csr), (SV.rd ETy.u8 m.mem), (SV.v (Value.int IntKind.u64 m.time)), (SV.rd ETy.u8 m.out), (SV.b true)])))
        else
          (bif (BEq.beq i.op (25 : Int)) then
            (bif (Bool.or (Bool.not (Nat.beq (List.length m.out) 0)) true) then
              (bif (Nat.ble ((0 + (List.length m.out)) * 1) 140737488355328) then
                (bif (Nat.ble (((List.length m.out) + 1) * 1) 140737488355328) then
                  (Tree.leaf (SV.agg [(SV.arr IntKind.u32 16 m.core.regs), (SV.v (Value.int IntKind.u32 (IntKind.wrap IntKind.u32 (m.core.pc + (4 : Int))))), (SV.arr IntKind.u32 12 m.core.csr), (SV.rd ETy.u8 m.mem), (SV.v (Value.int IntKind.u64 m.time)), (SV.rd ETy.u8 (List.append m.out [(IntKind.wrap IntKind.u8 (Int.tmod x0 (256 : Int)))])), (SV.v (Value.bool m.halted))]))
                else
                  (Tree.fail))
              else
                (Tree.fail))
            else
              (Tree.fail))
          else
            (Tree.leaf (SV.agg [(SV.arr IntKind.u32 16 m.core.regs), (SV.v (Value.int IntKind.u32 (IntKind.wrap IntKind.u32 (m.core.pc + (4 : Int))))), (SV.arr IntKind.u32 12 m.core.csr), (SV.rd ETy.u8 m.mem), (SV.v (Value.int IntKind.u64 m.time)), (SV.rd ETy.u8 m.out), (SV.v (Value.bool m.halted))]))))))) := by kernel_rfl
section
attribute [local irreducible] evF evFL
theorem a_ref12_Do (m : PMach) (i : PInstr) (hpre : m.out.length ≤ 1099511627776) (ok_m : okMach m) (ok_i : okInstr i) : (evF E_ref12_Do 60 19 (encArgs [.mach, .instr] (m, i, ()))).ends fun out_ => decO [.mach] out_ = some (K.priv m i) := by
  rw [t_ref12_Do, Tree.ends_holds]
  obtain ⟨a, b⟩ := okI_i32 ok_i.imm
  have e1 : IntKind.i64.wrap i.imm = i.imm := wrapI64 (by omega) (by omega)
  obtain ⟨g0, g1⟩ := K.get_ok ok_m.core.regs i.ra
  have e2 : Int.tmod (K.get m.core.regs i.ra) 256 = K.get m.core.regs i.ra % 256 := Int.tmod_eq_emod_of_nonneg g0
  simp only [Tree.holds_loop, Tree.holds_fork, Tree.holds_next, if_true, Tree.holds_cond, Tree.holds_letv, Tree.holds_leaf, Tree.holds_fail, decO, decA, decTup, decMach, decCore, decTrap, decInstr, decPart, decGuest, decConf, decEvent, decVcpu, decStep, bytesS, boolS, eventsS, intsS, guestsS, vcpusS, rowS, castL, Option.bind_some, Option.map_some, Option.some.injEq, Nat.beq_refl, beq_self_eq_true, Bool.and_self, cond_true, cond_false, eq_self, e1, e2, wrap8, wrap32, beq_iff_eq, beq_eq_false_iff_ne, bne_iff_ne, bne_eq_false_iff_eq, ne_eq, decide_eq_true_eq, decide_eq_false_iff_not, ble_true, ble_false, inRange_iff, inRange_false, List.drop_zero, Int.ofNat_eq_natCast, Int.toNat_natCast, List.take_length, List.append_eq, Bool.and_eq_true, decide_true, and_true, true_and, Int.emod_emod]
  repeat' (first | refine drop_ok ?_ | intro _ | with_reducible apply And.intro)
  all_goals first | omega | (simp_all [K.priv, K.adv]; done) | skip
  
theorem c_ref12_Do : SpecOk EB 19 S_ref12_Do := spec_sig ok_ref12_Do (n := 60) fun ⟨m, i, ⟨⟩⟩ h hok => a_ref12_Do m i (of_decide_eq_true h) (ok_mach (okSL_head hok)) (ok_instr (okSL_head (okSL_tail hok)))
end

/-! ref11_times -/

def S_ref11_times : Spec := sig [.i .i32, .i .i64] [.i .u32] (fun (n, by_, _) => n * by_ % 4294967296) (pre := fun (n, by_, _) => decide (0 ≤ by_ ∧ by_ ≤ 65536))
noncomputable def E_ref11_times : Env := EB.adds []

theorem ok_ref11_times : EnvOk E_ref11_times := okEB.adds (l := _) trivial

theorem t_ref11_times (n : Int) (by_ : Int) : evF E_ref11_times 60 36 (encArgs [.i .i32, .i .i64] (n, by_, ())) = 
  Tree.leaf (SV.v (Value.int IntKind.u32 (IntKind.wrap IntKind.u32 (Int.tmod (IntKind.wrap IntKind.i64 ((Int.tmod (IntKind.wrap IntKind.i64 ((IntKind.wrap IntKind.i64 n) * by_)) (4294967296 : Int)) + (4294967296 : Int))) (4294967296 : Int))))) := by kernel_rfl
section
attribute [local irreducible] evF evFL
theorem a_ref11_times (n : Int) (by_ : Int) (hpre : 0 ≤ by_ ∧ by_ ≤ 65536) (ok_n : okI .i32 n) (ok_by_ : okI .i64 by_) : (evF E_ref11_times 60 36 (encArgs [.i .i32, .i .i64] (n, by_, ()))).ends fun out_ => decO [.i .u32] out_ = some (n * by_ % 4294967296) := by
  rw [t_ref11_times, Tree.ends_holds]
  obtain ⟨n0, n1⟩ := okI_i32 ok_n
  have e0 : IntKind.i64.wrap n = n := wrapI64 (by omega) (by omega)
  have hb : -281474976710656 ≤ n * by_ ∧ n * by_ ≤ 281474976710656 := by
    have h1 : n * by_ ≤ 2147483648 * by_ := Int.mul_le_mul_of_nonneg_right (by omega) hpre.1
    have h2 : (-2147483648) * by_ ≤ n * by_ := Int.mul_le_mul_of_nonneg_right (by omega) hpre.1
    omega
  simp only [Tree.holds_loop, Tree.holds_fork, Tree.holds_next, if_true, Tree.holds_cond, Tree.holds_letv, Tree.holds_leaf, Tree.holds_fail, decO, decA, decTup, decMach, decCore, decTrap, decInstr, decPart, decGuest, decConf, decEvent, decVcpu, decStep, bytesS, boolS, eventsS, intsS, guestsS, vcpusS, rowS, castL, Option.bind_some, Option.map_some, Option.some.injEq, Nat.beq_refl, beq_self_eq_true, Bool.and_self, cond_true, cond_false, eq_self, beq_iff_eq, beq_eq_false_iff_ne, bne_iff_ne, bne_eq_false_iff_eq, ne_eq, decide_eq_true_eq, decide_eq_false_iff_not, ble_true, ble_false, inRange_iff, inRange_false, e0]
  generalize n * by_ = z at *
  have e1 : IntKind.i64.wrap by_ = by_ := wrapI64 (by omega) (by omega)
  have e2 : IntKind.i64.wrap z = z := wrapI64 (by omega) (by omega)
  have hm : Int.tmod z 4294967296 = z % 4294967296 ∨ Int.tmod z 4294967296 = z % 4294967296 - 4294967296 := by
    by_cases h : 0 ≤ z
    · exact .inl (Int.tmod_eq_emod_of_nonneg h)
    · rw [Int.tmod_eq_emod]; split <;> simp <;> omega
  have e3 : IntKind.i64.wrap (Int.tmod z 4294967296 + 4294967296) = Int.tmod z 4294967296 + 4294967296 := wrapI64 (by omega) (by omega)
  have e4 : Int.tmod (Int.tmod z 4294967296 + 4294967296) 4294967296 = z % 4294967296 := by
    rw [Int.tmod_eq_emod_of_nonneg (by omega)]; omega
  have e5 : IntKind.u32.wrap (z % 4294967296) = z % 4294967296 := by rw [wrap32]; omega
  simp only [e1, e2, e3, e4, e5]
  repeat' (first | refine drop_ok ?_ | intro _ | with_reducible apply And.intro)
  
theorem c_ref11_times : SpecOk EB 36 S_ref11_times := spec_sig ok_ref11_times (n := 60) fun ⟨n, by_, ⟨⟩⟩ h hok => a_ref11_times n by_ (of_decide_eq_true h) (ok_int (okSL_head hok)) (ok_int (okSL_head (okSL_tail hok)))
end

/-! ref11_put -/

def S_ref11_put : Spec := sig [.mach, .i .i64, .i .u32, .i .u32] [.mach] (fun (m, rd, v, by_, _) => K.wput m rd v ((m.core.pc + by_) % 4294967296))
noncomputable def E_ref11_put : Env := EB.adds [(33, S_ref07_Put)]

theorem ok_ref11_put : EnvOk E_ref11_put := okEB.adds (l := _) ⟨c_ref07_Put, trivial⟩

theorem t_ref11_put (m : PMach) (rd : Int) (v : Int) (by_ : Int) : evF E_ref11_put 60 37 (encArgs [.mach, .i .i64, .i .u32, .i .u32] (m, rd, v, by_, ())) = 
  Tree.letv (okO [(AT.a IntKind.u32 16)]) (K.put m.core.regs rd v) fun x0 =>
  (Tree.leaf (SV.agg [(SV.arr IntKind.u32 16 x0), (SV.v (Value.int IntKind.u32 (IntKind.wrap IntKind.u32 (m.core.pc + by_)))), (SV.arr IntKind.u32 12 m.core.csr), (SV.rd ETy.u8 m.mem), (SV.v (Value.int IntKind.u64 m.time)), (SV.rd ETy.u8 m.out), (SV.v (Value.bool m.halted))])) := by kernel_rfl
section
attribute [local irreducible] evF evFL
theorem a_ref11_put (m : PMach) (rd : Int) (v : Int) (by_ : Int) (ok_m : okMach m) (ok_rd : okI .i64 rd) (ok_v : okI .u32 v) (ok_by_ : okI .u32 by_) : (evF E_ref11_put 60 37 (encArgs [.mach, .i .i64, .i .u32, .i .u32] (m, rd, v, by_, ()))).ends fun out_ => decO [.mach] out_ = some (K.wput m rd v ((m.core.pc + by_) % 4294967296)) := by
  rw [t_ref11_put, Tree.ends_holds]
  simp only [Tree.holds_loop, Tree.holds_fork, Tree.holds_next, if_true, Tree.holds_cond, Tree.holds_letv, Tree.holds_leaf, Tree.holds_fail, decO, decA, decTup, decMach, decCore, decTrap, decInstr, decPart, decGuest, decConf, decEvent, decVcpu, decStep, bytesS, boolS, eventsS, intsS, guestsS, vcpusS, rowS, castL, Option.bind_some, Option.map_some, Option.some.injEq, Nat.beq_refl, beq_self_eq_true, Bool.and_self, cond_true, cond_false, eq_self, beq_iff_eq, beq_eq_false_iff_ne, bne_iff_ne, bne_eq_false_iff_eq, ne_eq, decide_eq_true_eq, decide_eq_false_iff_not, ble_true, ble_false, inRange_iff, inRange_false, wrap32, K.wput]
  repeat' (first | refine drop_ok ?_ | intro _ | with_reducible apply And.intro)
  all_goals trivial
  
theorem c_ref11_put : SpecOk EB 37 S_ref11_put := spec_sig ok_ref11_put (n := 60) fun ⟨m, rd, v, by_, ⟨⟩⟩ h hok => a_ref11_put m rd v by_ (ok_mach (okSL_head hok)) (ok_int (okSL_head (okSL_tail hok))) (ok_int (okSL_head (okSL_tail (okSL_tail hok)))) (ok_int (okSL_head (okSL_tail (okSL_tail (okSL_tail hok)))))
end

/-! ref08_bitwise -/
@[reducible] def L_ref08_bitwise (op x y : Int) : LoopSpec where
  σ := Nat
  slots := [0, 1, 2, 7, 8]
  keys := []
  vals := fun j => [.v (.int .i64 op), .v (.int .u32 x), .v (.int .u32 y), .v (.int .u64 ((K.bw op x.toNat y.toNat % 2 ^ j : Nat) : Int)), .v (.int .i64 (j : Int))]
  blks := fun _ => []
  inv := fun j => j ≤ 32
  mu := fun j => 32 - j
def S_ref08_bitwise : Spec := sig [.i .i64, .i .u32, .i .u32] [.i .u32] (fun (op, x, y, _) => K.alu op x y) (pre := fun (op, x, y, _) => decide (3 ≤ op ∧ op ≤ 5))
noncomputable def E_ref08_bitwise : Env := EB.adds [(41, S_ref01_Field), (70, S_ref01_Pow)]

theorem ok_ref08_bitwise : EnvOk E_ref08_bitwise := okEB.adds (l := _) ⟨c_ref01_Field, c_ref01_Pow, trivial⟩

theorem t_ref08_bitwise (op : Int) (x : Int) (y : Int) : evFL E_ref08_bitwise (fun _ => some (L_ref08_bitwise op x y)) 60 68 (encArgs [.i .i64, .i .u32, .i .u32] (op, x, y, ())) = 
  Tree.loop 0 (L_ref08_bitwise op x y) [(SV.v (Value.int IntKind.i64 op)), (SV.v (Value.int IntKind.u32 x)), (SV.v (Value.int IntKind.u32 y)), (SV.v (Value.int IntKind.u64 (0 : Int))), (SV.v (Value.int IntKind.i64 (0 : Int)))] [] fun (x0 : Nat) =>
  (bif (decide ((Int.ofNat x0) < (32 : Int))) then
    (bif (decide (And ((Int.ofNat x0) ≤ (63 : Int)) ((1 : Int) ≤ (63 : Int)))) then
      (Tree.letv (okO [(AT.i IntKind.u32)]) (K.field x (Int.ofNat x0) (1 : Int)) fun x1 =>
      (bif (BEq.beq x1 (1 : Int)) then
        (bif (decide (And ((Int.ofNat x0) ≤ (63 : Int)) ((1 : Int) ≤ (63 : Int)))) then
          (Tree.letv (okO [(AT.i IntKind.u32)]) (K.field y (Int.ofNat x0) (1 : Int)) fun x2 =>
          (bif (BEq.beq x2 (1 : Int)) then
            (bif (BEq.beq op (3 : Int)) then
              (bif (decide ((Int.ofNat x0) ≤ (63 : Int))) then
                (Tree.letv (okO [(AT.i IntKind.u64)]) (K.pow (Int.ofNat x0)) fun x3 =>
                ((Tree.next 0 [(SV.v (Value.int IntKind.i64 op)), (SV.v (Value.int IntKind.u32 x)), (SV.v (Value.int IntKind.u32 y)), (SV.v (Value.int IntKind.u64 (IntKind.wrap IntKind.u64 ((Int.ofNat ((K.bw op (Int.toNat x) (Int.toNat y)) % (2 ^ x0))) + x3)))), (SV.v (Value.int IntKind.i64 (IntKind.wrap IntKind.i64 ((Int.ofNat x0) + (1 : Int)))))] [])))
              else
                (Tree.fail))
            else
              (bif (BEq.beq op (4 : Int)) then
                (bif (decide ((Int.ofNat x0) ≤ (63 : Int))) then
                  (Tree.letv (okO [(AT.i IntKind.u64)]) (K.pow (Int.ofNat x0)) fun x3 =>
                  ((Tree.next 0 [(SV.v (Value.int IntKind.i64 op)), (SV.v (Value.int IntKind.u32 x)), (SV.v (Value.int IntKind.u32 y)), (SV.v (Value.int IntKind.u64 (IntKind.wrap IntKind.u64 ((Int.ofNat ((K.bw op (Int.toNat x) (Int.toNat y)) % (2 ^ x0))) + x3)))), (SV.v (Value.int IntKind.i64 (IntKind.wrap IntKind.i64 ((Int.ofNat x0) + (1 : Int)))))] [])))
                else
                  (Tree.fail))
              else
                (bif (BEq.beq op (5 : Int)) then
                  ((Tree.next 0 [(SV.v (Value.int IntKind.i64 op)), (SV.v (Value.int IntKind.u32 x)), (SV.v (Value.int IntKind.u32 y)), (SV.v (Value.int IntKind.u64 (Int.ofNat ((K.bw op (Int.toNat x) (Int.toNat y)) % (2 ^ x0))))), (SV.v (Value.int IntKind.i64 (IntKind.wrap IntKind.i64 ((Int.ofNat x0) + (1 : Int)))))] []))
                else
                  ((Tree.next 0 [(SV.v (Value.int IntKind.i64 op)), (SV.v (Value.int IntKind.u32 x)), (SV.v (Value.int IntKind.u32 y)), (SV.v (Value.int IntKind.u64 (Int.ofNat ((K.bw op (Int.toNat x) (Int.toNat y)) % (2 ^ x0))))), (SV.v (Value.int IntKind.i64 (IntKind.wrap IntKind.i64 ((Int.ofNat x0) + (1 : Int)))))] [])))))
          else
            (bif (BEq.beq op (3 : Int)) then
              (bif (BEq.beq op (4 : Int)) then
                (bif (decide ((Int.ofNat x0) ≤ (63 : Int))) then
                  (Tree.letv (okO [(AT.i IntKind.u64)]) (K.pow (Int.ofNat x0)) fun x3 =>
                  ((Tree.next 0 [(SV.v (Value.int IntKind.i64 op)), (SV.v (Value.int IntKind.u32 x)), (SV.v (Value.int IntKind.u32 y)), (SV.v (Value.int IntKind.u64 (IntKind.wrap IntKind.u64 ((Int.ofNat ((K.bw op (Int.toNat x) (Int.toNat y)) % (2 ^ x0))) + x3)))), (SV.v (Value.int IntKind.i64 (IntKind.wrap IntKind.i64 ((Int.ofNat x0) + (1 : Int)))))] [])))
                else
                  (Tree.fail))
              else
                (bif (BEq.beq op (5 : Int)) then
                  (bif (decide ((Int.ofNat x0) ≤ (63 : Int))) then
                    (Tree.letv (okO [(AT.i IntKind.u64)]) (K.pow (Int.ofNat x0)) fun x3 =>
                    ((Tree.next 0 [(SV.v (Value.int IntKind.i64 op)), (SV.v (Value.int IntKind.u32 x)), (SV.v (Value.int IntKind.u32 y)), (SV.v (Value.int IntKind.u64 (IntKind.wrap IntKind.u64 ((Int.ofNat ((K.bw op (Int.toNat x) (Int.toNat y)) % (2 ^ x0))) + x3)))), (SV.v (Value.int IntKind.i64 (IntKind.wrap IntKind.i64 ((Int.ofNat x0) + (1 : Int)))))] [])))
                  else
                    (Tree.fail))
                else
                  ((Tree.next 0 [(SV.v (Value.int IntKind.i64 op)), (SV.v (Value.int IntKind.u32 x)), (SV.v (Value.int IntKind.u32 y)), (SV.v (Value.int IntKind.u64 (Int.ofNat ((K.bw op (Int.toNat x) (Int.toNat y)) % (2 ^ x0))))), (SV.v (Value.int IntKind.i64 (IntKind.wrap IntKind.i64 ((Int.ofNat x0) + (1 : Int)))))] []))))
            else
              (bif (BEq.beq op (4 : Int)) then
                (bif (decide ((Int.ofNat x0) ≤ (63 : Int))) then
                  (Tree.letv (okO [(AT.i IntKind.u64)]) (K.pow (Int.ofNat x0)) fun x3 =>
                  ((Tree.next 0 [(SV.v (Value.int IntKind.i64 op)), (SV.v (Value.int IntKind.u32 x)), (SV.v (Value.int IntKind.u32 y)), (SV.v (Value.int IntKind.u64 (IntKind.wrap IntKind.u64 ((Int.ofNat ((K.bw op (Int.toNat x) (Int.toNat y)) % (2 ^ x0))) + x3)))), (SV.v (Value.int IntKind.i64 (IntKind.wrap IntKind.i64 ((Int.ofNat x0) + (1 : Int)))))] [])))
                else
                  (Tree.fail))
              else
                (bif (BEq.beq op (5 : Int)) then
                  (bif (decide ((Int.ofNat x0) ≤ (63 : Int))) then
                    (Tree.letv (okO [(AT.i IntKind.u64)]) (K.pow (Int.ofNat x0)) fun x3 =>
                    ((Tree.next 0 [(SV.v (Value.int IntKind.i64 op)), (SV.v (Value.int IntKind.u32 x)), (SV.v (Value.int IntKind.u32 y)), (SV.v (Value.int IntKind.u64 (IntKind.wrap IntKind.u64 ((Int.ofNat ((K.bw op (Int.toNat x) (Int.toNat y)) % (2 ^ x0))) + x3)))), (SV.v (Value.int IntKind.i64 (IntKind.wrap IntKind.i64 ((Int.ofNat x0) + (1 : Int)))))] [])))
                  else
                    (Tree.fail))
                else
                  ((Tree.next 0 [(SV.v (Value.int IntKind.i64 op)), (SV.v (Value.int IntKind.u32 x)), (SV.v (Value.int IntKind.u32 y)), (SV.v (Value.int IntKind.u64 (Int.ofNat ((K.bw op (Int.toNat x) (Int.toNat y)) % (2 ^ x0))))), (SV.v (Value.int IntKind.i64 (IntKind.wrap IntKind.i64 ((Int.ofNat x0) + (1 : Int)))))] [])))))))
        else
          (Tree.fail))
      else
        (bif (decide (And ((Int.ofNat x0) ≤ (63 : Int)) ((1 : Int) ≤ (63 : Int)))) then
          (Tree.letv (okO [(AT.i IntKind.u32)]) (K.field y (Int.ofNat x0) (1 : Int)) fun x2 =>
          (bif (BEq.beq x2 (1 : Int)) then
            (bif (BEq.beq op (3 : Int)) then
              (bif (BEq.beq op (4 : Int)) then
                (bif (decide ((Int.ofNat x0) ≤ (63 : Int))) then
                  (Tree.letv (okO [(AT.i IntKind.u64)]) (K.pow (Int.ofNat x0)) fun x3 =>
                  ((Tree.next 0 [(SV.v (Value.int IntKind.i64 op)), (SV.v (Value.int IntKind.u32 x)), (SV.v (Value.int IntKind.u32 y)), (SV.v (Value.int IntKind.u64 (IntKind.wrap IntKind.u64 ((Int.ofNat ((K.bw op (Int.toNat x) (Int.toNat y)) % (2 ^ x0))) + x3)))), (SV.v (Value.int IntKind.i64 (IntKind.wrap IntKind.i64 ((Int.ofNat x0) + (1 : Int)))))] [])))
                else
                  (Tree.fail))
              else
                (bif (BEq.beq op (5 : Int)) then
                  (bif (decide ((Int.ofNat x0) ≤ (63 : Int))) then
                    (Tree.letv (okO [(AT.i IntKind.u64)]) (K.pow (Int.ofNat x0)) fun x3 =>
                    ((Tree.next 0 [(SV.v (Value.int IntKind.i64 op)), (SV.v (Value.int IntKind.u32 x)), (SV.v (Value.int IntKind.u32 y)), (SV.v (Value.int IntKind.u64 (IntKind.wrap IntKind.u64 ((Int.ofNat ((K.bw op (Int.toNat x) (Int.toNat y)) % (2 ^ x0))) + x3)))), (SV.v (Value.int IntKind.i64 (IntKind.wrap IntKind.i64 ((Int.ofNat x0) + (1 : Int)))))] [])))
                  else
                    (Tree.fail))
                else
                  ((Tree.next 0 [(SV.v (Value.int IntKind.i64 op)), (SV.v (Value.int IntKind.u32 x)), (SV.v (Value.int IntKind.u32 y)), (SV.v (Value.int IntKind.u64 (Int.ofNat ((K.bw op (Int.toNat x) (Int.toNat y)) % (2 ^ x0))))), (SV.v (Value.int IntKind.i64 (IntKind.wrap IntKind.i64 ((Int.ofNat x0) + (1 : Int)))))] []))))
            else
              (bif (BEq.beq op (4 : Int)) then
                (bif (decide ((Int.ofNat x0) ≤ (63 : Int))) then
                  (Tree.letv (okO [(AT.i IntKind.u64)]) (K.pow (Int.ofNat x0)) fun x3 =>
                  ((Tree.next 0 [(SV.v (Value.int IntKind.i64 op)), (SV.v (Value.int IntKind.u32 x)), (SV.v (Value.int IntKind.u32 y)), (SV.v (Value.int IntKind.u64 (IntKind.wrap IntKind.u64 ((Int.ofNat ((K.bw op (Int.toNat x) (Int.toNat y)) % (2 ^ x0))) + x3)))), (SV.v (Value.int IntKind.i64 (IntKind.wrap IntKind.i64 ((Int.ofNat x0) + (1 : Int)))))] [])))
                else
                  (Tree.fail))
              else
                (bif (BEq.beq op (5 : Int)) then
                  (bif (decide ((Int.ofNat x0) ≤ (63 : Int))) then
                    (Tree.letv (okO [(AT.i IntKind.u64)]) (K.pow (Int.ofNat x0)) fun x3 =>
                    ((Tree.next 0 [(SV.v (Value.int IntKind.i64 op)), (SV.v (Value.int IntKind.u32 x)), (SV.v (Value.int IntKind.u32 y)), (SV.v (Value.int IntKind.u64 (IntKind.wrap IntKind.u64 ((Int.ofNat ((K.bw op (Int.toNat x) (Int.toNat y)) % (2 ^ x0))) + x3)))), (SV.v (Value.int IntKind.i64 (IntKind.wrap IntKind.i64 ((Int.ofNat x0) + (1 : Int)))))] [])))
                  else
                    (Tree.fail))
                else
                  ((Tree.next 0 [(SV.v (Value.int IntKind.i64 op)), (SV.v (Value.int IntKind.u32 x)), (SV.v (Value.int IntKind.u32 y)), (SV.v (Value.int IntKind.u64 (Int.ofNat ((K.bw op (Int.toNat x) (Int.toNat y)) % (2 ^ x0))))), (SV.v (Value.int IntKind.i64 (IntKind.wrap IntKind.i64 ((Int.ofNat x0) + (1 : Int)))))] [])))))
          else
            (bif (BEq.beq op (3 : Int)) then
              (bif (BEq.beq op (4 : Int)) then
                (bif (BEq.beq op (5 : Int)) then
                  ((Tree.next 0 [(SV.v (Value.int IntKind.i64 op)), (SV.v (Value.int IntKind.u32 x)), (SV.v (Value.int IntKind.u32 y)), (SV.v (Value.int IntKind.u64 (Int.ofNat ((K.bw op (Int.toNat x) (Int.toNat y)) % (2 ^ x0))))), (SV.v (Value.int IntKind.i64 (IntKind.wrap IntKind.i64 ((Int.ofNat x0) + (1 : Int)))))] []))
                else
                  ((Tree.next 0 [(SV.v (Value.int IntKind.i64 op)), (SV.v (Value.int IntKind.u32 x)), (SV.v (Value.int IntKind.u32 y)), (SV.v (Value.int IntKind.u64 (Int.ofNat ((K.bw op (Int.toNat x) (Int.toNat y)) % (2 ^ x0))))), (SV.v (Value.int IntKind.i64 (IntKind.wrap IntKind.i64 ((Int.ofNat x0) + (1 : Int)))))] [])))
              else
                (bif (BEq.beq op (5 : Int)) then
                  ((Tree.next 0 [(SV.v (Value.int IntKind.i64 op)), (SV.v (Value.int IntKind.u32 x)), (SV.v (Value.int IntKind.u32 y)), (SV.v (Value.int IntKind.u64 (Int.ofNat ((K.bw op (Int.toNat x) (Int.toNat y)) % (2 ^ x0))))), (SV.v (Value.int IntKind.i64 (IntKind.wrap IntKind.i64 ((Int.ofNat x0) + (1 : Int)))))] []))
                else
                  ((Tree.next 0 [(SV.v (Value.int IntKind.i64 op)), (SV.v (Value.int IntKind.u32 x)), (SV.v (Value.int IntKind.u32 y)), (SV.v (Value.int IntKind.u64 (Int.ofNat ((K.bw op (Int.toNat x) (Int.toNat y)) % (2 ^ x0))))), (SV.v (Value.int IntKind.i64 (IntKind.wrap IntKind.i64 ((Int.ofNat x0) + (1 : Int)))))] []))))
            else
              (bif (BEq.beq op (4 : Int)) then
                (bif (BEq.beq op (5 : Int)) then
                  ((Tree.next 0 [(SV.v (Value.int IntKind.i64 op)), (SV.v (Value.int IntKind.u32 x)), (SV.v (Value.int IntKind.u32 y)), (SV.v (Value.int IntKind.u64 (Int.ofNat ((K.bw op (Int.toNat x) (Int.toNat y)) % (2 ^ x0))))), (SV.v (Value.int IntKind.i64 (IntKind.wrap IntKind.i64 ((Int.ofNat x0) + (1 : Int)))))] []))
                else
                  ((Tree.next 0 [(SV.v (Value.int IntKind.i64 op)), (SV.v (Value.int IntKind.u32 x)), (SV.v (Value.int IntKind.u32 y)), (SV.v (Value.int IntKind.u64 (Int.ofNat ((K.bw op (Int.toNat x) (Int.toNat y)) % (2 ^ x0))))), (SV.v (Value.int IntKind.i64 (IntKind.wrap IntKind.i64 ((Int.ofNat x0) + (1 : Int)))))] [])))
              else
                (bif (BEq.beq op (5 : Int)) then
                  ((Tree.next 0 [(SV.v (Value.int IntKind.i64 op)), (SV.v (Value.int IntKind.u32 x)), (SV.v (Value.int IntKind.u32 y)), (SV.v (Value.int IntKind.u64 (Int.ofNat ((K.bw op (Int.toNat x) (Int.toNat y)) % (2 ^ x0))))), (SV.v (Value.int IntKind.i64 (IntKind.wrap IntKind.i64 ((Int.ofNat x0) + (1 : Int)))))] []))
                else
                  ((Tree.next 0 [(SV.v (Value.int IntKind.i64 op)), (SV.v (Value.int IntKind.u32 x)), (SV.v (Value.int IntKind.u32 y)), (SV.v (Value.int IntKind.u64 (Int.ofNat ((K.bw op (Int.toNat x) (Int.toNat y)) % (2 ^ x0))))), (SV.v (Value.int IntKind.i64 (IntKind.wrap IntKind.i64 ((Int.ofNat x0) + (1 : Int)))))] [])))))))
        else
          (Tree.fail))))
    else
      (Tree.fail))
  else
    (Tree.leaf (SV.v (Value.int IntKind.u32 (IntKind.wrap IntKind.u32 (Int.ofNat ((K.bw op (Int.toNat x) (Int.toNat y)) % (2 ^ x0)))))))) := by kernel_rfl
section
attribute [local irreducible] evF evFL
theorem a_ref08_bitwise (op : Int) (x : Int) (y : Int) (hpre : 3 ≤ op ∧ op ≤ 5) (ok_op : okI .i64 op) (ok_x : okI .u32 x) (ok_y : okI .u32 y) : (evFL E_ref08_bitwise (fun _ => some (L_ref08_bitwise op x y)) 60 68 (encArgs [.i .i64, .i .u32, .i .u32] (op, x, y, ()))).ends fun out_ => decO [.i .u32] out_ = some (K.alu op x y) := by
  rw [t_ref08_bitwise, Tree.ends_holds]
  obtain ⟨x0, x1⟩ := okI_u32 ok_x
  obtain ⟨y0, y1⟩ := okI_u32 ok_y
  obtain ⟨x, rfl⟩ := Int.eq_ofNat_of_zero_le x0
  obtain ⟨y, rfl⟩ := Int.eq_ofNat_of_zero_le y0
  have hT := bw_lt (op := op) (a := x) (b := y) (by omega) (by omega)
  have hbit := fun i => bw_bit op x y i
  rw [alu_bw hpre (by omega) (by omega)]
  simp only [Tree.holds_loop]
  refine ⟨⟨(0 : Nat), by simp [Nat.mod_one], rfl, Nat.zero_le _, trivial⟩, fun (j : Nat) (hj : j ≤ 32) => ?_⟩
  have nx : j < 32 → ∀ z : Int, z = ((K.bw op x y % 2 ^ (j + 1) : Nat) : Int) → (L_ref08_bitwise op x y).at (fun y_1 => (L_ref08_bitwise op x y).mu y_1 < (L_ref08_bitwise op x y).mu j) [SV.v (.int .i64 op), .v (.int .u32 (x : Int)), .v (.int .u32 (y : Int)), .v (.int .u64 z), .v (.int .i64 (IntKind.i64.wrap ((j : Int) + 1)))] [] := fun h z hz => by
    have e2 : IntKind.i64.wrap ((j : Int) + 1) = ((j + 1 : Nat) : Int) := by rw [wrapI64 (by omega) (by omega)]; rfl
    refine ⟨j + 1, ?_, rfl, ?_, ?_⟩
    · rw [hz, e2]; rfl
    · show j + 1 ≤ 32; omega
    · show 32 - (j + 1) < 32 - j; omega
  have hb := hbit j
  have hm := bit_more_aux (K.bw op x y) j
  have hlt : K.bw op x y % 2 ^ j < 2 ^ j := Nat.mod_lt _ (Nat.two_pow_pos j)
  have h2 := pow_le32 hj
  have t1 : (K.bw op x y).testBit j = true → j < 32 → IntKind.u64.wrap (((K.bw op x y % 2 ^ j : Nat) : Int) + K.pow (j : Int)) = ((K.bw op x y % 2 ^ (j + 1) : Nat) : Int) := fun h hj => by
    rw [hm, h]; unfold K.pow; rw [wrap64]; simp only [Bool.toNat_true, Int.toNat_natCast]; omega
  have t0 : (K.bw op x y).testBit j = false → ((K.bw op x y % 2 ^ j : Nat) : Int) = ((K.bw op x y % 2 ^ (j + 1) : Nat) : Int) := fun h => by
    rw [hm, h]; simp
  simp only [Tree.holds_loop, Tree.holds_fork, Tree.holds_next, if_true, Tree.holds_cond, Tree.holds_letv, Tree.holds_leaf, Tree.holds_fail, decO, decA, decTup, decMach, decCore, decTrap, decInstr, decPart, decGuest, decConf, decEvent, decVcpu, decStep, bytesS, boolS, eventsS, intsS, guestsS, vcpusS, rowS, castL, Option.bind_some, Option.map_some, Option.some.injEq, Nat.beq_refl, beq_self_eq_true, Bool.and_self, cond_true, cond_false, eq_self, beq_iff_eq, beq_eq_false_iff_ne, bne_iff_ne, bne_eq_false_iff_eq, ne_eq, decide_eq_true_eq, decide_eq_false_iff_not, ble_true, ble_false, inRange_iff, inRange_false, Int.ofNat_eq_natCast, Int.toNat_natCast, field_bit]
  generalize hX : x.testBit j = bx at *
  generalize hY : y.testBit j = bY at *
  generalize hZ : (K.bw op x y).testBit j = bz at *
  clear hX hY hZ hbit hm
  have fin : ¬ j < 32 → IntKind.u32.wrap ((K.bw op x y % 2 ^ j : Nat) : Int) = ((K.bw op x y : Nat) : Int) := fun h => by
    have : j = 32 := by omega
    subst this
    rw [Nat.mod_eq_of_lt (show K.bw op x y < 2 ^ 32 by omega), wrap32]; omega
  clear hlt
  generalize ((K.bw op x y % 2 ^ j : Nat) : Int) = A at *
  generalize ((K.bw op x y % 2 ^ (j + 1) : Nat) : Int) = B at *
  generalize ((K.bw op x y : Nat) : Int) = C at *
  have h3 : op = 3 ∨ op = 4 ∨ op = 5 := by omega
  rcases h3 with rfl | rfl | rfl <;> cases bx <;> cases bY <;> simp at hb <;> subst hb <;> simp at t1 t0 ⊢ <;>
    (repeat' (first | intro _ | with_reducible apply And.intro)) <;> (try intros) <;> first | omega | exact nx (by omega) _ (t1 (by omega)) | exact nx (by omega) _ t0 | (rw [fin (by omega)]) | trace_state
  
theorem c_ref08_bitwise : SpecOk EB 68 S_ref08_bitwise := spec_sigL ok_ref08_bitwise (n := 60) (fun (op, x, y, _) => fun _ => some (L_ref08_bitwise op x y)) fun ⟨op, x, y, ⟨⟩⟩ h hok => a_ref08_bitwise op x y (of_decide_eq_true h) (ok_int (okSL_head hok)) (ok_int (okSL_head (okSL_tail hok))) (ok_int (okSL_head (okSL_tail (okSL_tail hok))))
end

/-! ref08_signed -/

def S_ref08_signed : Spec := sig [.i .u32] [.i .i64] (fun (x, _) => K.sgn x)
noncomputable def E_ref08_signed : Env := EB.adds []

theorem ok_ref08_signed : EnvOk E_ref08_signed := okEB.adds (l := _) trivial

theorem t_ref08_signed (x : Int) : evF E_ref08_signed 60 69 (encArgs [.i .u32] (x, ())) = 
  bif (decide (x ≥ (2147483648 : Int))) then
    (Tree.leaf (SV.v (Value.int IntKind.i64 (IntKind.wrap IntKind.i64 ((IntKind.wrap IntKind.i64 x) - (4294967296 : Int))))))
  else
    (Tree.leaf (SV.v (Value.int IntKind.i64 (IntKind.wrap IntKind.i64 x)))) := by kernel_rfl
section
attribute [local irreducible] evF evFL
theorem a_ref08_signed (x : Int) (ok_x : okI .u32 x) : (evF E_ref08_signed 60 69 (encArgs [.i .u32] (x, ()))).ends fun out_ => decO [.i .i64] out_ = some (K.sgn x) := by
  rw [t_ref08_signed, Tree.ends_holds]
  obtain ⟨x0, x1⟩ := okI_u32 ok_x
  have e1 : IntKind.i64.wrap x = x := wrapI64 (by omega) (by omega)
  have e2 : IntKind.i64.wrap (x - 4294967296) = x - 4294967296 := wrapI64 (by omega) (by omega)
  simp only [Tree.holds_loop, Tree.holds_fork, Tree.holds_next, if_true, Tree.holds_cond, Tree.holds_letv, Tree.holds_leaf, Tree.holds_fail, decO, decA, decTup, decMach, decCore, decTrap, decInstr, decPart, decGuest, decConf, decEvent, decVcpu, decStep, bytesS, boolS, eventsS, intsS, guestsS, vcpusS, rowS, castL, Option.bind_some, Option.map_some, Option.some.injEq, Nat.beq_refl, beq_self_eq_true, Bool.and_self, cond_true, cond_false, eq_self, beq_iff_eq, beq_eq_false_iff_ne, bne_iff_ne, bne_eq_false_iff_eq, ne_eq, decide_eq_true_eq, decide_eq_false_iff_not, ble_true, ble_false, inRange_iff, inRange_false, K.sgn, e1, e2]
  repeat' (first | refine drop_ok ?_ | intro _ | with_reducible apply And.intro)
  all_goals first | (rw [if_pos (by omega)]; done) | (rw [if_neg (by omega)]; done)
  
theorem c_ref08_signed : SpecOk EB 69 S_ref08_signed := spec_sig ok_ref08_signed (n := 60) fun ⟨x, ⟨⟩⟩ h hok => a_ref08_signed x (ok_int (okSL_head hok))
end

/-! ref08_Do -/

def S_ref08_Do : Spec := sig [.i .i64, .i .u32, .i .u32] [.i .u32] (fun (op, x, y, _) => K.alu op x y)
noncomputable def E_ref08_Do : Env := EB.adds [(68, S_ref08_bitwise), (69, S_ref08_signed), (70, S_ref01_Pow)]

theorem ok_ref08_Do : EnvOk E_ref08_Do := okEB.adds (l := _) ⟨c_ref08_bitwise, c_ref08_signed, c_ref01_Pow, trivial⟩

theorem t_ref08_Do (op : Int) (x : Int) (y : Int) : evF E_ref08_Do 60 38 (encArgs [.i .i64, .i .u32, .i .u32] (op, x, y, ())) = 
  bif (BEq.beq op (1 : Int)) then
    (Tree.leaf (SV.v (Value.int IntKind.u32 (IntKind.wrap IntKind.u32 (Int.tmod (IntKind.wrap IntKind.u64 ((IntKind.wrap IntKind.u64 x) + (IntKind.wrap IntKind.u64 y))) (4294967296 : Int))))))
  else
    (bif (BEq.beq op (2 : Int)) then
      (Tree.leaf (SV.v (Value.int IntKind.u32 (IntKind.wrap IntKind.u32 (Int.tmod (IntKind.wrap IntKind.u64 ((IntKind.wrap IntKind.u64 ((IntKind.wrap IntKind.u64 x) + (4294967296 : Int))) - (IntKind.wrap IntKind.u64 y))) (4294967296 : Int))))))
    else
      (bif (BEq.beq op (3 : Int)) then
        (bif (decide (And ((3 : Int) ≤ op) (op ≤ (5 : Int)))) then
          (Tree.letv (okO [(AT.i IntKind.u32)]) (K.alu op x y) fun x0 =>
          (Tree.leaf (SV.v (Value.int IntKind.u32 x0))))
        else
          (Tree.fail))
      else
        (bif (BEq.beq op (4 : Int)) then
          (bif (decide (And ((3 : Int) ≤ op) (op ≤ (5 : Int)))) then
            (Tree.letv (okO [(AT.i IntKind.u32)]) (K.alu op x y) fun x0 =>
            (Tree.leaf (SV.v (Value.int IntKind.u32 x0))))
          else
            (Tree.fail))
        else
          (bif (BEq.beq op (5 : Int)) then
            (bif (decide (And ((3 : Int) ≤ op) (op ≤ (5 : Int)))) then
              (Tree.letv (okO [(AT.i IntKind.u32)]) (K.alu op x y) fun x0 =>
              (Tree.leaf (SV.v (Value.int IntKind.u32 x0))))
            else
              (Tree.fail))
          else
            (bif (BEq.beq op (6 : Int)) then
              (Tree.letv (okO [(AT.i IntKind.i64)]) (K.sgn x) fun x0 =>
              (Tree.letv (okO [(AT.i IntKind.i64)]) (K.sgn y) fun x1 =>
              (bif (decide (x0 < x1)) then
                (Tree.leaf (SV.v (Value.int IntKind.u32 (1 : Int))))
              else
                (Tree.leaf (SV.v (Value.int IntKind.u32 (0 : Int)))))))
            else
              (bif (BEq.beq op (7 : Int)) then
                (bif (decide ((IntKind.wrap IntKind.i64 (Int.tmod y (32 : Int))) ≤ (63 : Int))) then
                  (Tree.letv (okO [(AT.i IntKind.u64)]) (K.pow (IntKind.wrap IntKind.i64 (Int.tmod y (32 : Int)))) fun x0 =>
                  (Tree.leaf (SV.v (Value.int IntKind.u32 (IntKind.wrap IntKind.u32 (Int.tmod (IntKind.wrap IntKind.u64 ((IntKind.wrap IntKind.u64 x) * x0)) (4294967296 : Int)))))))
                else
                  (Tree.fail))
              else
                (bif (BEq.beq op (8 : Int)) then
                  (bif (decide ((IntKind.wrap IntKind.i64 (Int.tmod y (32 : Int))) ≤ (63 : Int))) then
                    (Tree.letv (okO [(AT.i IntKind.u64)]) (K.pow (IntKind.wrap IntKind.i64 (Int.tmod y (32 : Int)))) fun x0 =>
                    (bif (bne x0 (0 : Int)) then
                      (Tree.leaf (SV.v (Value.int IntKind.u32 (IntKind.wrap IntKind.u32 (IntKind.wrap IntKind.u64 (Int.tdiv (IntKind.wrap IntKind.u64 x) x0))))))
                    else
                      (Tree.fail)))
                  else
                    (Tree.fail))
                else
                  (Tree.leaf (SV.v (Value.int IntKind.u32 (0 : Int))))))))))) := by kernel_rfl
section
attribute [local irreducible] evF evFL
theorem a_ref08_Do (op : Int) (x : Int) (y : Int) (ok_op : okI .i64 op) (ok_x : okI .u32 x) (ok_y : okI .u32 y) : (evF E_ref08_Do 60 38 (encArgs [.i .i64, .i .u32, .i .u32] (op, x, y, ()))).ends fun out_ => decO [.i .u32] out_ = some (K.alu op x y) := by
  rw [t_ref08_Do, Tree.ends_holds]
  obtain ⟨x0, x1⟩ := okI_u32 ok_x
  obtain ⟨y0, y1⟩ := okI_u32 ok_y
  have p0 := K.pow_pos (y % 32)
  have p1 := K.pow_le (n := y % 32) (by omega)
  have d0 : Int.tmod y 32 = y % 32 := Int.tmod_eq_emod_of_nonneg y0
  have d1 : IntKind.i64.wrap (y % 32) = y % 32 := wrapI64 (by omega) (by omega)
  have q1 : x / K.pow (y % 32) ≤ x := Int.ediv_le_self _ x0
  have q0 : 0 ≤ x / K.pow (y % 32) := Int.ediv_nonneg x0 (by omega)
  have e1 : IntKind.u32.wrap (Int.tmod (IntKind.u64.wrap (IntKind.u64.wrap x + IntKind.u64.wrap y)) 4294967296) = (x + y) % 4294967296 := by
    rw [wrap64, wrap64, wrap64, wrap32, Int.tmod_eq_emod_of_nonneg (by omega)]; omega
  have e2 : IntKind.u32.wrap (Int.tmod (IntKind.u64.wrap (IntKind.u64.wrap (IntKind.u64.wrap x + 4294967296) - IntKind.u64.wrap y)) 4294967296) = (x - y) % 4294967296 := by
    rw [wrap64, wrap64, wrap64, wrap64, wrap32, Int.tmod_eq_emod_of_nonneg (by omega)]; omega
  have e7 : IntKind.u32.wrap (Int.tmod (IntKind.u64.wrap (IntKind.u64.wrap x * K.pow (y % 32))) 4294967296) = x * K.pow (y % 32) % 4294967296 := by
    rw [wrap64, wrap64, wrap32, Int.emod_eq_of_lt (a := x) (by omega) (by omega), Int.tmod_eq_emod_of_nonneg (by omega)]; omega
  have e8 : IntKind.u32.wrap (IntKind.u64.wrap (Int.tdiv (IntKind.u64.wrap x) (K.pow (y % 32)))) = x / K.pow (y % 32) := by
    rw [wrap64, wrap64, Int.emod_eq_of_lt (a := x) (by omega) (by omega), Int.tdiv_eq_ediv_of_nonneg x0, wrap32]; omega
  simp only [Tree.holds_loop, Tree.holds_fork, Tree.holds_next, if_true, Tree.holds_cond, Tree.holds_letv, Tree.holds_leaf, Tree.holds_fail, decO, decA, decTup, decMach, decCore, decTrap, decInstr, decPart, decGuest, decConf, decEvent, decVcpu, decStep, bytesS, boolS, eventsS, intsS, guestsS, vcpusS, rowS, castL, Option.bind_some, Option.map_some, Option.some.injEq, Nat.beq_refl, beq_self_eq_true, Bool.and_self, cond_true, cond_false, eq_self, beq_iff_eq, beq_eq_false_iff_ne, bne_iff_ne, bne_eq_false_iff_eq, ne_eq, decide_eq_true_eq, decide_eq_false_iff_not, ble_true, ble_false, inRange_iff, inRange_false, d0, d1, e1, e2, e7, e8]
  clear e1 e2 e7 e8
  unfold K.alu
  repeat' (first | refine drop_ok ?_ | intro _ | with_reducible apply And.intro)
  all_goals first | omega | (simp_all; done) | (simp_all; omega) | (subst_vars; simp_all; done) | ((repeat' split) <;> first | omega | rfl | (simp_all; done))
  
theorem c_ref08_Do : SpecOk EB 38 S_ref08_Do := spec_sig ok_ref08_Do (n := 60) fun ⟨op, x, y, ⟨⟩⟩ h hok => a_ref08_Do op x y (ok_int (okSL_head hok)) (ok_int (okSL_head (okSL_tail hok))) (ok_int (okSL_head (okSL_tail (okSL_tail hok))))
end

/-! ref05_Store -/

def S_ref05_Store : Spec := sig [.rd .u8, .i .u32, .i .i64, .i .u32] [.rd .u8, .b] (fun (m, a, n, v, _) => if K.inR m.length a n = true then (K.st m a n v, true) else (m, false)) (pre := fun (m, a, n, v, _) => decide ((n = 1 ∨ n = 4) ∧ m.length ≤ 1099511627776))
noncomputable def E_ref05_Store : Env := EB.adds [(103, S_ref05_There)]

theorem ok_ref05_Store : EnvOk E_ref05_Store := okEB.adds (l := _) ⟨c_ref05_There, trivial⟩
theorem t1_c_ref05_Store (m : List Int) (a v : Int) : evF E_ref05_Store 60 71 [.rd .u8 m, .v (.int .u32 a), .v (.int .i64 1), .v (.int .u32 v)] = 
  bif (decide (And ((0 : Int) ≤ (1 : Int)) (And ((1 : Int) ≤ (1099511627776 : Int)) ((0 : Int) ≤ (Int.ofNat (List.length m)))))) then
    (Tree.letv (okO [AT.b]) (K.inR (Int.ofNat (List.length m)) a (1 : Int)) fun x0 =>
    (bif x0 then
      (bif (Bool.or (Bool.not (Nat.beq (List.length m) 0)) true) then
        (bif (Nat.ble ((0 + (List.length m)) * 1) 140737488355328) then
          (bif (inRange (IntKind.wrap IntKind.i64 ((IntKind.wrap IntKind.i64 a) + (0 : Int))) (List.length m)) then
            (Tree.leaf (SV.tup [(SV.rd ETy.u8 (List.set m (Int.toNat (IntKind.wrap IntKind.i64 ((IntKind.wrap IntKind.i64 a) + (0 : Int)))) (IntKind.wrap IntKind.u8 (Int.tmod v (256 : Int))))), (SV.b true)]))
          else
            (Tree.fail))
        else
          (Tree.fail))
      else
        (Tree.fail))
    else
      (Tree.leaf (SV.tup [(SV.rd ETy.u8 m), (SV.b false)]))))
  else
    (Tree.fail) := by kernel_rfl
theorem t4_c_ref05_Store (m : List Int) (a v : Int) : evF E_ref05_Store 60 71 [.rd .u8 m, .v (.int .u32 a), .v (.int .i64 4), .v (.int .u32 v)] = 
  bif (decide (And ((0 : Int) ≤ (4 : Int)) (And ((4 : Int) ≤ (1099511627776 : Int)) ((0 : Int) ≤ (Int.ofNat (List.length m)))))) then
    (Tree.letv (okO [AT.b]) (K.inR (Int.ofNat (List.length m)) a (4 : Int)) fun x0 =>
    (bif x0 then
      (bif (Bool.or (Bool.not (Nat.beq (List.length m) 0)) true) then
        (bif (Nat.ble ((0 + (List.length m)) * 1) 140737488355328) then
          (bif (inRange (IntKind.wrap IntKind.i64 ((IntKind.wrap IntKind.i64 a) + (0 : Int))) (List.length m)) then
            (bif (inRange (IntKind.wrap IntKind.i64 ((IntKind.wrap IntKind.i64 a) + (1 : Int))) (List.length (List.set m (Int.toNat (IntKind.wrap IntKind.i64 ((IntKind.wrap IntKind.i64 a) + (0 : Int)))) (IntKind.wrap IntKind.u8 (Int.tmod v (256 : Int)))))) then
              (bif (inRange (IntKind.wrap IntKind.i64 ((IntKind.wrap IntKind.i64 a) + (2 : Int))) (List.length (List.set (List.set m (Int.toNat (IntKind.wrap IntKind.i64 ((IntKind.wrap IntKind.i64 a) + (0 : Int)))) (IntKind.wrap IntKind.u8 (Int.tmod v (256 : Int)))) (Int.toNat (IntKind.wrap IntKind.i64 ((IntKind.wrap IntKind.i64 a) + (1 : Int)))) (IntKind.wrap IntKind.u8 (Int.tmod (IntKind.wrap IntKind.u32 (Int.tdiv v (256 : Int))) (256 : Int)))))) then
                (bif (inRange (IntKind.wrap IntKind.i64 ((IntKind.wrap IntKind.i64 a) + (3 : Int))) (List.length (List.set (List.set (List.set m (Int.toNat (IntKind.wrap IntKind.i64 ((IntKind.wrap IntKind.i64 a) + (0 : Int)))) (IntKind.wrap IntKind.u8 (Int.tmod v (256 : Int)))) (Int.toNat (IntKind.wrap IntKind.i64 ((IntKind.wrap IntKind.i64 a) + (1 : Int)))) (IntKind.wrap IntKind.u8 (Int.tmod (IntKind.wrap IntKind.u32 (Int.tdiv v (256 : Int))) (256 : Int)))) (Int.toNat (IntKind.wrap IntKind.i64 ((IntKind.wrap IntKind.i64 a) + (2 : Int)))) (IntKind.wrap IntKind.u8 (Int.tmod (IntKind.wrap IntKind.u32 (Int.tdiv (IntKind.wrap IntKind.u32 (Int.tdiv v (256 : Int))) (256 : Int))) (256 : Int)))))) then
                  (Tree.leaf (SV.tup [(SV.rd ETy.u8 (List.set (List.set (List.set (List.set m (Int.toNat (IntKind.wrap IntKind.i64 ((IntKind.wrap IntKind.i64 a) + (0 : Int)))) (IntKind.wrap IntKind.u8 (Int.tmod v (256 : Int)))) (Int.toNat (IntKind.wrap IntKind.i64 ((IntKind.wrap IntKind.i64 a) + (1 : Int)))) (IntKind.wrap IntKind.u8 (Int.tmod (IntKind.wrap IntKind.u32 (Int.tdiv v (256 : Int))) (256 : Int)))) (Int.toNat (IntKind.wrap IntKind.i64 ((IntKind.wrap IntKind.i64 a) + (2 : Int)))) (IntKind.wrap IntKind.u8 (Int.tmod (IntKind.wrap IntKind.u32 (Int.tdiv (IntKind.wrap IntKind.u32 (Int.tdiv v (256 : Int))) (256 : Int))) (256 : Int)))) (Int.toNat (IntKind.wrap IntKind.i64 ((IntKind.wrap IntKind.i64 a) + (3 : Int)))) (IntKind.wrap IntKind.u8 (Int.tmod (IntKind.wrap IntKind.u32 (Int.tdiv (IntKind.wrap IntKind.u32 (Int.tdiv (IntKind.wrap IntKind.u32 (Int.tdiv v (256 : Int))) (256 : Int))) (256 : Int))) (256 : Int))))), (SV.b true)]))
                else
                  (Tree.fail))
              else
                (Tree.fail))
            else
              (Tree.fail))
          else
            (Tree.fail))
        else
          (Tree.fail))
      else
        (Tree.fail))
    else
      (Tree.leaf (SV.tup [(SV.rd ETy.u8 m), (SV.b false)]))))
  else
    (Tree.fail) := by kernel_rfl
theorem a1_c_ref05_Store (m : List Int) (a v : Int) (hm : m.length ≤ 1099511627776) (ok_m : okBytes m) (ok_a : okI .u32 a) (ok_v : okI .u32 v) : (evF E_ref05_Store 60 71 [.rd .u8 m, .v (.int .u32 a), .v (.int .i64 1), .v (.int .u32 v)]).ends fun out_ => decO [.rd .u8, .b] out_ = some (if K.inR m.length a 1 = true then (K.st m a 1 v, true) else (m, false)) := by
  rw [t1_c_ref05_Store, Tree.ends_holds]
  obtain ⟨a0, a1⟩ := okI_u32 ok_a
  obtain ⟨v0, v1⟩ := okI_u32 ok_v
  have ew : IntKind.i64.wrap a = a := wrapI64 (by omega) (by omega)
  have i0 : IntKind.i64.wrap (a + 0) = a := by rw [wrapI64 (by omega) (by omega)]; omega
  have hr : K.inR m.length a 1 = true ↔ a + 1 ≤ (m.length : Int) := by simp [K.inR]
  have d0 : Int.tmod v 256 = v % 256 := Int.tmod_eq_emod_of_nonneg v0
  have d1 : v % 256 % 256 = v % 256 := by omega
  simp only [Tree.holds_loop, Tree.holds_fork, Tree.holds_next, if_true, Tree.holds_cond, Tree.holds_letv, Tree.holds_leaf, Tree.holds_fail, decO, decA, decTup, decMach, decCore, decTrap, decInstr, decPart, decGuest, decConf, decEvent, decVcpu, decStep, bytesS, boolS, eventsS, intsS, guestsS, vcpusS, rowS, castL, Option.bind_some, Option.map_some, Option.some.injEq, Nat.beq_refl, beq_self_eq_true, Bool.and_self, cond_true, cond_false, eq_self, beq_iff_eq, beq_eq_false_iff_ne, bne_iff_ne, bne_eq_false_iff_eq, ne_eq, decide_eq_true_eq, decide_eq_false_iff_not, ble_true, ble_false, inRange_iff, inRange_false, Int.ofNat_eq_natCast, ew, i0, wrap8, d0, d1]
  repeat' (first | refine drop_ok ?_ | intro _ | with_reducible apply And.intro)
  all_goals first | (rw [if_pos (by assumption)]; rfl) | (rw [if_neg (by simp_all)]; done) | omega | (exfalso; have := hr.1 (by assumption); omega) | (rename_i z; simp at z; done) | trace_state
theorem a4_c_ref05_Store (m : List Int) (a v : Int) (hm : m.length ≤ 1099511627776) (ok_m : okBytes m) (ok_a : okI .u32 a) (ok_v : okI .u32 v) : (evF E_ref05_Store 60 71 [.rd .u8 m, .v (.int .u32 a), .v (.int .i64 4), .v (.int .u32 v)]).ends fun out_ => decO [.rd .u8, .b] out_ = some (if K.inR m.length a 4 = true then (K.st m a 4 v, true) else (m, false)) := by
  rw [t4_c_ref05_Store, Tree.ends_holds]
  obtain ⟨a0, a1⟩ := okI_u32 ok_a
  obtain ⟨v0, v1⟩ := okI_u32 ok_v
  have ew : IntKind.i64.wrap a = a := wrapI64 (by omega) (by omega)
  have i0 : IntKind.i64.wrap (a + 0) = a := by rw [wrapI64 (by omega) (by omega)]; omega
  have i1 : IntKind.i64.wrap (a + 1) = a + 1 := wrapI64 (by omega) (by omega)
  have i2 : IntKind.i64.wrap (a + 2) = a + 2 := wrapI64 (by omega) (by omega)
  have i3 : IntKind.i64.wrap (a + 3) = a + 3 := wrapI64 (by omega) (by omega)
  have n1 : (a + 1).toNat = a.toNat + 1 := by omega
  have n2 : (a + 2).toNat = a.toNat + 2 := by omega
  have n3 : (a + 3).toNat = a.toNat + 3 := by omega
  have hr : K.inR m.length a 4 = true ↔ a + 4 ≤ (m.length : Int) := by simp [K.inR]
  have q1 : IntKind.u32.wrap (Int.tdiv v 256) = v / 256 := by rw [Int.tdiv_eq_ediv_of_nonneg v0, wrap32]; omega
  have q2 : IntKind.u32.wrap (Int.tdiv (v / 256) 256) = v / 65536 := by rw [Int.tdiv_eq_ediv_of_nonneg (by omega), wrap32]; omega
  have q3 : IntKind.u32.wrap (Int.tdiv (v / 65536) 256) = v / 16777216 := by rw [Int.tdiv_eq_ediv_of_nonneg (by omega), wrap32]; omega
  have d0 : Int.tmod v 256 % 256 = v % 256 := by rw [Int.tmod_eq_emod_of_nonneg v0]; omega
  have d1 : Int.tmod (v / 256) 256 % 256 = v / 256 % 256 := by rw [Int.tmod_eq_emod_of_nonneg (by omega)]; omega
  have d2 : Int.tmod (v / 65536) 256 % 256 = v / 65536 % 256 := by rw [Int.tmod_eq_emod_of_nonneg (by omega)]; omega
  have d3 : Int.tmod (v / 16777216) 256 % 256 = v / 16777216 % 256 := by rw [Int.tmod_eq_emod_of_nonneg (by omega)]; omega
  simp only [Tree.holds_loop, Tree.holds_fork, Tree.holds_next, if_true, Tree.holds_cond, Tree.holds_letv, Tree.holds_leaf, Tree.holds_fail, decO, decA, decTup, decMach, decCore, decTrap, decInstr, decPart, decGuest, decConf, decEvent, decVcpu, decStep, bytesS, boolS, eventsS, intsS, guestsS, vcpusS, rowS, castL, Option.bind_some, Option.map_some, Option.some.injEq, Nat.beq_refl, beq_self_eq_true, Bool.and_self, cond_true, cond_false, eq_self, beq_iff_eq, beq_eq_false_iff_ne, bne_iff_ne, bne_eq_false_iff_eq, ne_eq, decide_eq_true_eq, decide_eq_false_iff_not, ble_true, ble_false, inRange_iff, inRange_false, Int.ofNat_eq_natCast, ew, i0, i1, i2, i3, n1, n2, n3, wrap8, q1, q2, q3, d0, d1, d2, d3, List.length_set]
  repeat' (first | refine drop_ok ?_ | intro _ | with_reducible apply And.intro)
  all_goals first | (rw [if_pos (by assumption)]; rfl) | (rw [if_neg (by simp_all)]; done) | omega | (exfalso; have := hr.1 (by assumption); omega) | (rename_i z; simp at z; done) | trace_state
theorem c_ref05_Store : SpecOk EB 71 S_ref05_Store := spec_sig ok_ref05_Store (n := 60) fun ⟨m, a, n, v, ⟨⟩⟩ h hok => by
  have h := of_decide_eq_true h
  have o1 := ok_bytes (okSL_head hok)
  have o2 := ok_int (okSL_head (okSL_tail hok))
  have o3 := ok_int (okSL_head (okSL_tail (okSL_tail (okSL_tail hok))))
  rcases h with ⟨h | h, hm⟩
  · have h : n = 1 := h
    subst h; exact a1_c_ref05_Store m a v hm o1 o2 o3
  · have h : n = 4 := h
    subst h; exact a4_c_ref05_Store m a v hm o1 o2 o3


/-! ref10_Store -/

def S_ref10_Store : Spec := sig [.mach, .i .u32, .i .i64, .i .u32] [.mach, .trap] (fun (m, a, n, v, _) => K.store m a n v) (pre := fun (m, a, n, v, _) => decide ((n = 1 ∨ n = 4) ∧ m.mem.length ≤ 1099511627776))
noncomputable def E_ref10_Store : Env := EB.adds [(62, S_ref10_Cell), (71, S_ref05_Store)]

theorem ok_ref10_Store : EnvOk E_ref10_Store := okEB.adds (l := _) ⟨c_ref10_Cell, c_ref05_Store, trivial⟩

theorem t_ref10_Store (m : PMach) (a : Int) (n : Int) (v : Int) : evF E_ref10_Store 60 39 (encArgs [.mach, .i .u32, .i .i64, .i .u32] (m, a, n, v, ())) = 
  bif (decide (Or (n = (1 : Int)) (n = (4 : Int)))) then
    (Tree.letv (okO [(AT.i IntKind.u32), AT.trap]) (K.cell m a n) fun x0 =>
    (bif (BEq.beq x0.snd.cause (0 : Int)) then
      (bif (decide (And (Or (n = (1 : Int)) (n = (4 : Int))) ((List.length m.mem) ≤ 1099511627776))) then
        (Tree.letv (okO [(AT.rd ETy.u8), AT.b]) (if ((K.inR (Int.ofNat (List.length m.mem)) x0.fst n) = true) then ((K.st m.mem x0.fst n v), true) else (m.mem, false)) fun x1 =>
        (bif x1.snd then
          (Tree.leaf (SV.tup [(SV.agg [(SV.arr IntKind.u32 16 m.core.regs), (SV.v (Value.int IntKind.u32 m.core.pc)), (SV.arr IntKind.u32 12 m.core.csr), (SV.rd ETy.u8 x1.fst), (SV.v (Value.int IntKind.u64 m.time)), (SV.rd ETy.u8 m.out), (SV.v (Value.bool m.halted))]), (SV.agg [(SV.v (Value.int IntKind.i64 x0.snd.cause)), (SV.v (Value.int IntKind.u32 x0.snd.tval))])]))
        else
          (Tree.leaf (SV.tup [(SV.agg [(SV.arr IntKind.u32 16 m.core.regs), (SV.v (Value.int IntKind.u32 m.core.pc)), (SV.arr IntKind.u32 12 m.core.csr), (SV.rd ETy.u8 x1.fst), (SV.v (Value.int IntKind.u64 m.time)), (SV.rd ETy.u8 m.out), (SV.v (Value.bool m.halted))]), (SV.agg [(SV.v (Value.int IntKind.i64 x0.snd.cause)), (SV.v (Value.int IntKind.u32 x0.snd.tval))])]))))
      else
        (Tree.fail))
    else
      (Tree.leaf (SV.tup [(SV.agg [(SV.arr IntKind.u32 16 m.core.regs), (SV.v (Value.int IntKind.u32 m.core.pc)), (SV.arr IntKind.u32 12 m.core.csr), (SV.rd ETy.u8 m.mem), (SV.v (Value.int IntKind.u64 m.time)), (SV.rd ETy.u8 m.out), (SV.v (Value.bool m.halted))]), (SV.agg [(SV.v (Value.int IntKind.i64 x0.snd.cause)), (SV.v (Value.int IntKind.u32 x0.snd.tval))])]))))
  else
    (Tree.fail) := by kernel_rfl
section
attribute [local irreducible] evF evFL
theorem a_ref10_Store (m : PMach) (a : Int) (n : Int) (v : Int) (hpre : (n = 1 ∨ n = 4) ∧ m.mem.length ≤ 1099511627776) (ok_m : okMach m) (ok_a : okI .u32 a) (ok_n : okI .i64 n) (ok_v : okI .u32 v) : (evF E_ref10_Store 60 39 (encArgs [.mach, .i .u32, .i .i64, .i .u32] (m, a, n, v, ()))).ends fun out_ => decO [.mach, .trap] out_ = some (K.store m a n v) := by
  rw [t_ref10_Store, Tree.ends_holds]
  obtain ⟨a0, a1⟩ := okI_u32 ok_a
  have hr := fun h => cell_range ok_m.core (a := a) (n := n) a0 (by omega) h
  simp only [Tree.holds_loop, Tree.holds_fork, Tree.holds_next, if_true, Tree.holds_cond, Tree.holds_letv, Tree.holds_leaf, Tree.holds_fail, decO, decA, decTup, decMach, decCore, decTrap, decInstr, decPart, decGuest, decConf, decEvent, decVcpu, decStep, bytesS, boolS, eventsS, intsS, guestsS, vcpusS, rowS, castL, Option.bind_some, Option.map_some, Option.some.injEq, Nat.beq_refl, beq_self_eq_true, Bool.and_self, cond_true, cond_false, eq_self, beq_iff_eq, beq_eq_false_iff_ne, bne_iff_ne, bne_eq_false_iff_eq, ne_eq, decide_eq_true_eq, decide_eq_false_iff_not, ble_true, ble_false, inRange_iff, inRange_false, Int.ofNat_eq_natCast, K.store]
  by_cases h : (K.cell m a n).2.cause = 0
  · have ht := cell_zero h
    have hi : K.inR m.mem.length (K.cell m a n).1 n = true := by have := hr h; simp only [K.inR, decide_eq_true_eq]; omega
    simp only [h, ht, hi, if_true]
    simp [hpre]
  · simp [h, hpre]
  
theorem c_ref10_Store : SpecOk EB 39 S_ref10_Store := spec_sig ok_ref10_Store (n := 60) fun ⟨m, a, n, v, ⟨⟩⟩ h hok => a_ref10_Store m a n v (of_decide_eq_true h) (ok_mach (okSL_head hok)) (ok_int (okSL_head (okSL_tail hok))) (ok_int (okSL_head (okSL_tail (okSL_tail hok)))) (ok_int (okSL_head (okSL_tail (okSL_tail (okSL_tail hok)))))
end

/-! ref08_Taken -/

def S_ref08_Taken : Spec := sig [.i .i64, .i .u32, .i .u32] [.b] (fun (op, x, y, _) => K.taken op x y)
noncomputable def E_ref08_Taken : Env := EB.adds [(69, S_ref08_signed)]

theorem ok_ref08_Taken : EnvOk E_ref08_Taken := okEB.adds (l := _) ⟨c_ref08_signed, trivial⟩

theorem t_ref08_Taken (op : Int) (x : Int) (y : Int) : evF E_ref08_Taken 60 40 (encArgs [.i .i64, .i .u32, .i .u32] (op, x, y, ())) = 
  bif (BEq.beq op (15 : Int)) then
    (bif (BEq.beq x y) then
      (Tree.leaf (SV.b true))
    else
      (bif (BEq.beq op (16 : Int)) then
        (bif (bne x y) then
          (Tree.leaf (SV.b true))
        else
          (bif (BEq.beq op (17 : Int)) then
            (Tree.letv (okO [(AT.i IntKind.i64)]) (K.sgn x) fun x0 =>
            (Tree.letv (okO [(AT.i IntKind.i64)]) (K.sgn y) fun x1 =>
            (bif (decide (x0 < x1)) then
              (Tree.leaf (SV.b true))
            else
              (Tree.leaf (SV.b false)))))
          else
            (Tree.leaf (SV.b false))))
      else
        (bif (BEq.beq op (17 : Int)) then
          (Tree.letv (okO [(AT.i IntKind.i64)]) (K.sgn x) fun x0 =>
          (Tree.letv (okO [(AT.i IntKind.i64)]) (K.sgn y) fun x1 =>
          (bif (decide (x0 < x1)) then
            (Tree.leaf (SV.b true))
          else
            (Tree.leaf (SV.b false)))))
        else
          (Tree.leaf (SV.b false)))))
  else
    (bif (BEq.beq op (16 : Int)) then
      (bif (bne x y) then
        (Tree.leaf (SV.b true))
      else
        (bif (BEq.beq op (17 : Int)) then
          (Tree.letv (okO [(AT.i IntKind.i64)]) (K.sgn x) fun x0 =>
          (Tree.letv (okO [(AT.i IntKind.i64)]) (K.sgn y) fun x1 =>
          (bif (decide (x0 < x1)) then
            (Tree.leaf (SV.b true))
          else
            (Tree.leaf (SV.b false)))))
        else
          (Tree.leaf (SV.b false))))
    else
      (bif (BEq.beq op (17 : Int)) then
        (Tree.letv (okO [(AT.i IntKind.i64)]) (K.sgn x) fun x0 =>
        (Tree.letv (okO [(AT.i IntKind.i64)]) (K.sgn y) fun x1 =>
        (bif (decide (x0 < x1)) then
          (Tree.leaf (SV.b true))
        else
          (Tree.leaf (SV.b false)))))
      else
        (Tree.leaf (SV.b false)))) := by kernel_rfl
section
attribute [local irreducible] evF evFL
theorem a_ref08_Taken (op : Int) (x : Int) (y : Int) (ok_op : okI .i64 op) (ok_x : okI .u32 x) (ok_y : okI .u32 y) : (evF E_ref08_Taken 60 40 (encArgs [.i .i64, .i .u32, .i .u32] (op, x, y, ()))).ends fun out_ => decO [.b] out_ = some (K.taken op x y) := by
  rw [t_ref08_Taken, Tree.ends_holds]
  simp only [Tree.holds_loop, Tree.holds_fork, Tree.holds_next, if_true, Tree.holds_cond, Tree.holds_letv, Tree.holds_leaf, Tree.holds_fail, decO, decA, decTup, decMach, decCore, decTrap, decInstr, decPart, decGuest, decConf, decEvent, decVcpu, decStep, bytesS, boolS, eventsS, intsS, guestsS, vcpusS, rowS, castL, Option.bind_some, Option.map_some, Option.some.injEq, Nat.beq_refl, beq_self_eq_true, Bool.and_self, cond_true, cond_false, eq_self, beq_iff_eq, beq_eq_false_iff_ne, bne_iff_ne, bne_eq_false_iff_eq, ne_eq, decide_eq_true_eq, decide_eq_false_iff_not, ble_true, ble_false, inRange_iff, inRange_false, K.taken]
  repeat' (first | refine drop_ok ?_ | intro _ | with_reducible apply And.intro)
  all_goals first | omega | (simp_all; done) | ((repeat' split) <;> first | omega | rfl | (simp_all; done) | (simp_all; omega))
  
theorem c_ref08_Taken : SpecOk EB 40 S_ref08_Taken := spec_sig ok_ref08_Taken (n := 60) fun ⟨op, x, y, ⟨⟩⟩ h hok => a_ref08_Taken op x y (ok_int (okSL_head hok)) (ok_int (okSL_head (okSL_tail hok))) (ok_int (okSL_head (okSL_tail (okSL_tail hok))))
end

/-! ref11_Do -/

def S_ref11_Do : Spec := sig [.mach, .instr] [.mach, .trap] (fun (m, i, _) => K.exec m i) (pre := fun (m, i, _) => decide (1 ≤ i.op ∧ i.op ≤ 20 ∧ m.mem.length ≤ 1099511627776))
noncomputable def E_ref11_Do : Env := EB.adds [(31, S_ref07_Get), (36, S_ref11_times), (37, S_ref11_put), (38, S_ref08_Do), (29, S_ref10_Load), (39, S_ref10_Store), (40, S_ref08_Taken)]

theorem ok_ref11_Do : EnvOk E_ref11_Do := okEB.adds (l := _) ⟨c_ref07_Get, c_ref11_times, c_ref11_put, c_ref08_Do, c_ref10_Load, c_ref10_Store, c_ref08_Taken, trivial⟩

theorem t_ref11_Do (m : PMach) (i : PInstr) : evF E_ref11_Do 60 20 (encArgs [.mach, .instr] (m, i, ())) = 
  Tree.letv (okO [(AT.i IntKind.u32)]) (K.get m.core.regs i.ra) fun x0 =>
  (Tree.letv (okO [(AT.i IntKind.u32)]) (K.get m.core.regs i.rb) fun x1 =>
  (Tree.letv (okO [(AT.i IntKind.u32)]) (K.get m.core.regs i.rd) fun x2 =>
  (Tree.letv (okO [(AT.i IntKind.u32)]) ((i.imm * (1 : Int)) % (4294967296 : Int)) fun x3 =>
  (bif (BEq.beq i.op (1 : Int)) then
    (Tree.letv (okO [(AT.i IntKind.u32)]) (K.alu i.op x0 x1) fun x4 =>
    (Tree.letv (okO [AT.mach]) (K.wput m i.rd x4 ((m.core.pc + (4 : Int)) % (4294967296 : Int))) fun x5 =>
    (Tree.leaf (SV.tup [(SV.agg [(SV.arr IntKind.u32 16 x5.core.regs), (SV.v (Value.int IntKind.u32 x5.core.pc)), (SV.arr IntKind.u32 12 x5.core.csr), (SV.rd ETy.u8 x5.mem), (SV.v (Value.int IntKind.u64 x5.time)), (SV.rd ETy.u8 x5.out), (SV.v (Value.bool x5.halted))]), (SV.agg [(SV.v (Value.int IntKind.i64 (0 : Int))), (SV.v (Value.int IntKind.u32 (0 : Int)))])]))))
  else
    (bif (BEq.beq i.op (2 : Int)) then
      (Tree.letv (okO [(AT.i IntKind.u32)]) (K.alu i.op x0 x1) fun x4 =>
      (Tree.letv (okO [AT.mach]) (K.wput m i.rd x4 ((m.core.pc + (4 : Int)) % (4294967296 : Int))) fun x5 =>
      (Tree.leaf (SV.tup [(SV.agg [(SV.arr IntKind.u32 16 x5.core.regs), (SV.v (Value.int IntKind.u32 x5.core.pc)), (SV.arr IntKind.u32 12 x5.core.csr), (SV.rd ETy.u8 x5.mem), (SV.v (Value.int IntKind.u64 x5.time)), (SV.rd ETy.u8 x5.out), (SV.v (Value.bool x5.halted))]), (SV.agg [(SV.v (Value.int IntKind.i64 (0 : Int))), (SV.v (Value.int IntKind.u32 (0 : Int)))])]))))
    else
      (bif (BEq.beq i.op (3 : Int)) then
        (Tree.letv (okO [(AT.i IntKind.u32)]) (K.alu i.op x0 x1) fun x4 =>
        (Tree.letv (okO [AT.mach]) (K.wput m i.rd x4 ((m.core.pc + (4 : Int)) % (4294967296 : Int))) fun x5 =>
        (Tree.leaf (SV.tup [(SV.agg [(SV.arr IntKind.u32 16 x5.core.regs), (SV.v (Value.int IntKind.u32 x5.core.pc)), (SV.arr IntKind.u32 12 x5.core.csr), (SV.rd ETy.u8 x5.mem), (SV.v (Value.int IntKind.u64 x5.time)), (SV.rd ETy.u8 x5.out), (SV.v (Value.bool x5.halted))]), (SV.agg [(SV.v (Value.int IntKind.i64 (0 : Int))), (SV.v (Value.int IntKind.u32 (0 : Int)))])]))))
      else
        (bif (BEq.beq i.op (4 : Int)) then
          (Tree.letv (okO [(AT.i IntKind.u32)]) (K.alu i.op x0 x1) fun x4 =>
          (Tree.letv (okO [AT.mach]) (K.wput m i.rd x4 ((m.core.pc + (4 : Int)) % (4294967296 : Int))) fun x5 =>
          (Tree.leaf (SV.tup [(SV.agg [(SV.arr IntKind.u32 16 x5.core.regs), (SV.v (Value.int IntKind.u32 x5.core.pc)), (SV.arr IntKind.u32 12 x5.core.csr), (SV.rd ETy.u8 x5.mem), (SV.v (Value.int IntKind.u64 x5.time)), (SV.rd ETy.u8 x5.out), (SV.v (Value.bool x5.halted))]), (SV.agg [(SV.v (Value.int IntKind.i64 (0 : Int))), (SV.v (Value.int IntKind.u32 (0 : Int)))])]))))
        else
          (bif (BEq.beq i.op (5 : Int)) then
            (Tree.letv (okO [(AT.i IntKind.u32)]) (K.alu i.op x0 x1) fun x4 =>
            (Tree.letv (okO [AT.mach]) (K.wput m i.rd x4 ((m.core.pc + (4 : Int)) % (4294967296 : Int))) fun x5 =>
            (Tree.leaf (SV.tup [(SV.agg [(SV.arr IntKind.u32 16 x5.core.regs), (SV.v (Value.int IntKind.u32 x5.core.pc)), (SV.arr IntKind.u32 12 x5.core.csr), (SV.rd ETy.u8 x5.mem), (SV.v (Value.int IntKind.u64 x5.time)), (SV.rd ETy.u8 x5.out), (SV.v (Value.bool x5.halted))]), (SV.agg [(SV.v (Value.int IntKind.i64 (0 : Int))), (SV.v (Value.int IntKind.u32 (0 : Int)))])]))))
          else
            (bif (BEq.beq i.op (6 : Int)) then
              (Tree.letv (okO [(AT.i IntKind.u32)]) (K.alu i.op x0 x1) fun x4 =>
              (Tree.letv (okO [AT.mach]) (K.wput m i.rd x4 ((m.core.pc + (4 : Int)) % (4294967296 : Int))) fun x5 =>
              (Tree.leaf (SV.tup [(SV.agg [(SV.arr IntKind.u32 16 x5.core.regs), (SV.v (Value.int IntKind.u32 x5.core.pc)), (SV.arr IntKind.u32 12 x5.core.csr), (SV.rd ETy.u8 x5.mem), (SV.v (Value.int IntKind.u64 x5.time)), (SV.rd ETy.u8 x5.out), (SV.v (Value.bool x5.halted))]), (SV.agg [(SV.v (Value.int IntKind.i64 (0 : Int))), (SV.v (Value.int IntKind.u32 (0 : Int)))])]))))
            else
              (bif (BEq.beq i.op (7 : Int)) then
                (Tree.letv (okO [(AT.i IntKind.u32)]) (K.alu i.op x0 x1) fun x4 =>
                (Tree.letv (okO [AT.mach]) (K.wput m i.rd x4 ((m.core.pc + (4 : Int)) % (4294967296 : Int))) fun x5 =>
                (Tree.leaf (SV.tup [(SV.agg [(SV.arr IntKind.u32 16 x5.core.regs), (SV.v (Value.int IntKind.u32 x5.core.pc)), (SV.arr IntKind.u32 12 x5.core.csr), (SV.rd ETy.u8 x5.mem), (SV.v (Value.int IntKind.u64 x5.time)), (SV.rd ETy.u8 x5.out), (SV.v (Value.bool x5.halted))]), (SV.agg [(SV.v (Value.int IntKind.i64 (0 : Int))), (SV.v (Value.int IntKind.u32 (0 : Int)))])]))))
              else
                (bif (BEq.beq i.op (8 : Int)) then
                  (Tree.letv (okO [(AT.i IntKind.u32)]) (K.alu i.op x0 x1) fun x4 =>
                  (Tree.letv (okO [AT.mach]) (K.wput m i.rd x4 ((m.core.pc + (4 : Int)) % (4294967296 : Int))) fun x5 =>
                  (Tree.leaf (SV.tup [(SV.agg [(SV.arr IntKind.u32 16 x5.core.regs), (SV.v (Value.int IntKind.u32 x5.core.pc)), (SV.arr IntKind.u32 12 x5.core.csr), (SV.rd ETy.u8 x5.mem), (SV.v (Value.int IntKind.u64 x5.time)), (SV.rd ETy.u8 x5.out), (SV.v (Value.bool x5.halted))]), (SV.agg [(SV.v (Value.int IntKind.i64 (0 : Int))), (SV.v (Value.int IntKind.u32 (0 : Int)))])]))))
                else
                  (bif (BEq.beq i.op (9 : Int)) then
                    (Tree.letv (okO [AT.mach]) (K.wput m i.rd (IntKind.wrap IntKind.u32 (x0 + x3)) ((m.core.pc + (4 : Int)) % (4294967296 : Int))) fun x4 =>
                    (Tree.leaf (SV.tup [(SV.agg [(SV.arr IntKind.u32 16 x4.core.regs), (SV.v (Value.int IntKind.u32 x4.core.pc)), (SV.arr IntKind.u32 12 x4.core.csr), (SV.rd ETy.u8 x4.mem), (SV.v (Value.int IntKind.u64 x4.time)), (SV.rd ETy.u8 x4.out), (SV.v (Value.bool x4.halted))]), (SV.agg [(SV.v (Value.int IntKind.i64 (0 : Int))), (SV.v (Value.int IntKind.u32 (0 : Int)))])])))
                  else
                    (bif (BEq.beq i.op (10 : Int)) then
                      (Tree.letv (okO [(AT.i IntKind.u32)]) ((i.imm * (16384 : Int)) % (4294967296 : Int)) fun x4 =>
                      (Tree.letv (okO [AT.mach]) (K.wput m i.rd x4 ((m.core.pc + (4 : Int)) % (4294967296 : Int))) fun x5 =>
                      (Tree.leaf (SV.tup [(SV.agg [(SV.arr IntKind.u32 16 x5.core.regs), (SV.v (Value.int IntKind.u32 x5.core.pc)), (SV.arr IntKind.u32 12 x5.core.csr), (SV.rd ETy.u8 x5.mem), (SV.v (Value.int IntKind.u64 x5.time)), (SV.rd ETy.u8 x5.out), (SV.v (Value.bool x5.halted))]), (SV.agg [(SV.v (Value.int IntKind.i64 (0 : Int))), (SV.v (Value.int IntKind.u32 (0 : Int)))])]))))
                    else
                      (bif (BEq.beq i.op (11 : Int)) then
                        (bif (BEq.beq i.op (13 : Int)) then
                          (Tree.letv (okO [(AT.i IntKind.u32), AT.trap]) (K.load m (IntKind.wrap IntKind.u32 (x0 + x3)) (1 : Int)) fun x4 =>
                          (bif (bne x4.snd.cause (0 : Int)) then
                            (Tree.leaf (SV.tup [(SV.agg [(SV.arr IntKind.u32 16 m.core.regs), (SV.v (Value.int IntKind.u32 m.core.pc)), (SV.arr IntKind.u32 12 m.core.csr), (SV.rd ETy.u8 m.mem), (SV.v (Value.int IntKind.u64 m.time)), (SV.rd ETy.u8 m.out), (SV.v (Value.bool m.halted))]), (SV.agg [(SV.v (Value.int IntKind.i64 x4.snd.cause)), (SV.v (Value.int IntKind.u32 x4.snd.tval))])]))
                          else
                            (Tree.letv (okO [AT.mach]) (K.wput m i.rd x4.fst ((m.core.pc + (4 : Int)) % (4294967296 : Int))) fun x5 =>
                            (Tree.leaf (SV.tup [(SV.agg [(SV.arr IntKind.u32 16 x5.core.regs), (SV.v (Value.int IntKind.u32 x5.core.pc)), (SV.arr IntKind.u32 12 x5.core.csr), (SV.rd ETy.u8 x5.mem), (SV.v (Value.int IntKind.u64 x5.time)), (SV.rd ETy.u8 x5.out), (SV.v (Value.bool x5.halted))]), (SV.agg [(SV.v (Value.int IntKind.i64 (0 : Int))), (SV.v (Value.int IntKind.u32 (0 : Int)))])])))))
                        else
                          (Tree.letv (okO [(AT.i IntKind.u32), AT.trap]) (K.load m (IntKind.wrap IntKind.u32 (x0 + x3)) (4 : Int)) fun x4 =>
                          (bif (bne x4.snd.cause (0 : Int)) then
                            (Tree.leaf (SV.tup [(SV.agg [(SV.arr IntKind.u32 16 m.core.regs), (SV.v (Value.int IntKind.u32 m.core.pc)), (SV.arr IntKind.u32 12 m.core.csr), (SV.rd ETy.u8 m.mem), (SV.v (Value.int IntKind.u64 m.time)), (SV.rd ETy.u8 m.out), (SV.v (Value.bool m.halted))]), (SV.agg [(SV.v (Value.int IntKind.i64 x4.snd.cause)), (SV.v (Value.int IntKind.u32 x4.snd.tval))])]))
                          else
                            (Tree.letv (okO [AT.mach]) (K.wput m i.rd x4.fst ((m.core.pc + (4 : Int)) % (4294967296 : Int))) fun x5 =>
                            (Tree.leaf (SV.tup [(SV.agg [(SV.arr IntKind.u32 16 x5.core.regs), (SV.v (Value.int IntKind.u32 x5.core.pc)), (SV.arr IntKind.u32 12 x5.core.csr), (SV.rd ETy.u8 x5.mem), (SV.v (Value.int IntKind.u64 x5.time)), (SV.rd ETy.u8 x5.out), (SV.v (Value.bool x5.halted))]), (SV.agg [(SV.v (Value.int IntKind.i64 (0 : Int))), (SV.v (Value.int IntKind.u32 (0 : Int)))])]))))))
                      else
                        (bif (BEq.beq i.op (13 : Int)) then
                          (bif (BEq.beq i.op (13 : Int)) then
                            (Tree.letv (okO [(AT.i IntKind.u32), AT.trap]) (K.load m (IntKind.wrap IntKind.u32 (x0 + x3)) (1 : Int)) fun x4 =>
                            (bif (bne x4.snd.cause (0 : Int)) then
                              (Tree.leaf (SV.tup [(SV.agg [(SV.arr IntKind.u32 16 m.core.regs), (SV.v (Value.int IntKind.u32 m.core.pc)), (SV.arr IntKind.u32 12 m.core.csr), (SV.rd ETy.u8 m.mem), (SV.v (Value.int IntKind.u64 m.time)), (SV.rd ETy.u8 m.out), (SV.v (Value.bool m.halted))]), (SV.agg [(SV.v (Value.int IntKind.i64 x4.snd.cause)), (SV.v (Value.int IntKind.u32 x4.snd.tval))])]))
                            else
                              (Tree.letv (okO [AT.mach]) (K.wput m i.rd x4.fst ((m.core.pc + (4 : Int)) % (4294967296 : Int))) fun x5 =>
                              (Tree.leaf (SV.tup [(SV.agg [(SV.arr IntKind.u32 16 x5.core.regs), (SV.v (Value.int IntKind.u32 x5.core.pc)), (SV.arr IntKind.u32 12 x5.core.csr), (SV.rd ETy.u8 x5.mem), (SV.v (Value.int IntKind.u64 x5.time)), (SV.rd ETy.u8 x5.out), (SV.v (Value.bool x5.halted))]), (SV.agg [(SV.v (Value.int IntKind.i64 (0 : Int))), (SV.v (Value.int IntKind.u32 (0 : Int)))])])))))
                          else
                            (Tree.letv (okO [(AT.i IntKind.u32), AT.trap]) (K.load m (IntKind.wrap IntKind.u32 (x0 + x3)) (4 : Int)) fun x4 =>
                            (bif (bne x4.snd.cause (0 : Int)) then
                              (Tree.leaf (SV.tup [(SV.agg [(SV.arr IntKind.u32 16 m.core.regs), (SV.v (Value.int IntKind.u32 m.core.pc)), (SV.arr IntKind.u32 12 m.core.csr), (SV.rd ETy.u8 m.mem), (SV.v (Value.int IntKind.u64 m.time)), (SV.rd ETy.u8 m.out), (SV.v (Value.bool m.halted))]), (SV.agg [(SV.v (Value.int IntKind.i64 x4.snd.cause)), (SV.v (Value.int IntKind.u32 x4.snd.tval))])]))
                            else
                              (Tree.letv (okO [AT.mach]) (K.wput m i.rd x4.fst ((m.core.pc + (4 : Int)) % (4294967296 : Int))) fun x5 =>
                              (Tree.leaf (SV.tup [(SV.agg [(SV.arr IntKind.u32 16 x5.core.regs), (SV.v (Value.int IntKind.u32 x5.core.pc)), (SV.arr IntKind.u32 12 x5.core.csr), (SV.rd ETy.u8 x5.mem), (SV.v (Value.int IntKind.u64 x5.time)), (SV.rd ETy.u8 x5.out), (SV.v (Value.bool x5.halted))]), (SV.agg [(SV.v (Value.int IntKind.i64 (0 : Int))), (SV.v (Value.int IntKind.u32 (0 : Int)))])]))))))
                        else
                          (bif (BEq.beq i.op (12 : Int)) then
                            (bif (BEq.beq i.op (14 : Int)) then
                              (bif (decide (And (Or ((1 : Int) = (1 : Int)) ((1 : Int) = (4 : Int))) ((List.length m.mem) ≤ 1099511627776))) then
                                (Tree.letv (okO [AT.mach, AT.trap]) (K.store m (IntKind.wrap IntKind.u32 (x0 + x3)) (1 : Int) x2) fun x4 =>
                                (bif (bne x4.snd.cause (0 : Int)) then
                                  (Tree.leaf (SV.tup [(SV.agg [(SV.arr IntKind.u32 16 m.core.regs), (SV.v (Value.int IntKind.u32 m.core.pc)), (SV.arr IntKind.u32 12 m.core.csr), (SV.rd ETy.u8 m.mem), (SV.v (Value.int IntKind.u64 m.time)), (SV.rd ETy.u8 m.out), (SV.v (Value.bool m.halted))]), (SV.agg [(SV.v (Value.int IntKind.i64 x4.snd.cause)), (SV.v (Value.int IntKind.u32 x4.snd.tval))])]))
                                else
                                  (Tree.letv (okO [AT.mach]) (K.wput x4.fst (0 : Int) (0 : Int) ((x4.fst.core.pc + (4 : Int)) % (4294967296 : Int))) fun x5 =>
                                  (Tree.leaf (SV.tup [(SV.agg [(SV.arr IntKind.u32 16 x5.core.regs), (SV.v (Value.int IntKind.u32 x5.core.pc)), (SV.arr IntKind.u32 12 x5.core.csr), (SV.rd ETy.u8 x5.mem), (SV.v (Value.int IntKind.u64 x5.time)), (SV.rd ETy.u8 x5.out), (SV.v (Value.bool x5.halted))]), (SV.agg [(SV.v (Value.int IntKind.i64 (0 : Int))), (SV.v (Value.int IntKind.u32 (0 : Int)))])])))))
                              else
                                (Tree.fail))
                            else
                              (bif (decide (And (Or ((4 : Int) = (1 : Int)) ((4 : Int) = (4 : Int))) ((List.length m.mem) ≤ 1099511627776))) then
                                (Tree.letv (okO [AT.mach, AT.trap]) (K.store m (IntKind.wrap IntKind.u32 (x0 + x3)) (4 : Int) x2) fun x4 =>
                                (bif (bne x4.snd.cause (0 : Int)) then
                                  (Tree.leaf (SV.tup [(SV.agg [(SV.arr IntKind.u32 16 m.core.regs), (SV.v (Value.int IntKind.u32 m.core.pc)), (SV.arr IntKind.u32 12 m.core.csr), (SV.rd ETy.u8 m.mem), (SV.v (Value.int IntKind.u64 m.time)), (SV.rd ETy.u8 m.out), (SV.v (Value.bool m.halted))]), (SV.agg [(SV.v (Value.int IntKind.i64 x4.snd.cause)), (SV.v (Value.int IntKind.u32 x4.snd.tval))])]))
                                else
                                  (Tree.letv (okO [AT.mach]) (K.wput x4.fst (0 : Int) (0 : Int) ((x4.fst.core.pc + (4 : Int)) % (4294967296 : Int))) fun x5 =>
                                  (Tree.leaf (SV.tup [(SV.agg [(SV.arr IntKind.u32 16 x5.core.regs), (SV.v (Value.int IntKind.u32 x5.core.pc)), (SV.arr IntKind.u32 12 x5.core.csr), (SV.rd ETy.u8 x5.mem), (SV.v (Value.int IntKind.u64 x5.time)), (SV.rd ETy.u8 x5.out), (SV.v (Value.bool x5.halted))]), (SV.agg [(SV.v (Value.int IntKind.i64 (0 : Int))), (SV.v (Value.int IntKind.u32 (0 : Int)))])])))))
                              else
                                (Tree.fail)))
                          else
                            (bif (BEq.beq i.op (14 : Int)) then
                              (bif (BEq.beq i.op (14 : Int)) then
                                (bif (decide (And (Or ((1 : Int) = (1 : Int)) ((1 : Int) = (4 : Int))) ((List.length m.mem) ≤ 1099511627776))) then
                                  (Tree.letv (okO [AT.mach, AT.trap]) (K.store m (IntKind.wrap IntKind.u32 (x0 + x3)) (1 : Int) x2) fun x4 =>
                                  (bif (bne x4.snd.cause (0 : Int)) then
                                    (Tree.leaf (SV.tup [(SV.agg [(SV.arr IntKind.u32 16 m.core.regs), (SV.v (Value.int IntKind.u32 m.core.pc)), (SV.arr IntKind.u32 12 m.core.csr), (SV.rd ETy.u8 m.mem), (SV.v (Value.int IntKind.u64 m.time)), (SV.rd ETy.u8 m.out), (SV.v (Value.bool m.halted))]), (SV.agg [(SV.v (Value.int IntKind.i64 x4.snd.cause)), (SV.v (Value.int IntKind.u32 x4.snd.tval))])]))
                                  else
                                    (Tree.letv (okO [AT.mach]) (K.wput x4.fst (0 : Int) (0 : Int) ((x4.fst.core.pc + (4 : Int)) % (4294967296 : Int))) fun x5 =>
                                    (Tree.leaf (SV.tup [(SV.agg [(SV.arr IntKind.u32 16 x5.core.regs), (SV.v (Value.int IntKind.u32 x5.core.pc)), (SV.arr IntKind.u32 12 x5.core.csr), (SV.rd ETy.u8 x5.mem), (SV.v (Value.int IntKind.u64 x5.time)), (SV.rd ETy.u8 x5.out), (SV.v (Value.bool x5.halted))]), (SV.agg [(SV.v (Value.int IntKind.i64 (0 : Int))), (SV.v (Value.int IntKind.u32 (0 : Int)))])])))))
                                else
                                  (Tree.fail))
                              else
                                (bif (decide (And (Or ((4 : Int) = (1 : Int)) ((4 : Int) = (4 : Int))) ((List.length m.mem) ≤ 1099511627776))) then
                                  (Tree.letv (okO [AT.mach, AT.trap]) (K.store m (IntKind.wrap IntKind.u32 (x0 + x3)) (4 : Int) x2) fun x4 =>
                                  (bif (bne x4.snd.cause (0 : Int)) then
                                    (Tree.leaf (SV.tup [(SV.agg [(SV.arr IntKind.u32 16 m.core.regs), (SV.v (Value.int IntKind.u32 m.core.pc)), (SV.arr IntKind.u32 12 m.core.csr), (SV.rd ETy.u8 m.mem), (SV.v (Value.int IntKind.u64 m.time)), (SV.rd ETy.u8 m.out), (SV.v (Value.bool m.halted))]), (SV.agg [(SV.v (Value.int IntKind.i64 x4.snd.cause)), (SV.v (Value.int IntKind.u32 x4.snd.tval))])]))
                                  else
                                    (Tree.letv (okO [AT.mach]) (K.wput x4.fst (0 : Int) (0 : Int) ((x4.fst.core.pc + (4 : Int)) % (4294967296 : Int))) fun x5 =>
                                    (Tree.leaf (SV.tup [(SV.agg [(SV.arr IntKind.u32 16 x5.core.regs), (SV.v (Value.int IntKind.u32 x5.core.pc)), (SV.arr IntKind.u32 12 x5.core.csr), (SV.rd ETy.u8 x5.mem), (SV.v (Value.int IntKind.u64 x5.time)), (SV.rd ETy.u8 x5.out), (SV.v (Value.bool x5.halted))]), (SV.agg [(SV.v (Value.int IntKind.i64 (0 : Int))), (SV.v (Value.int IntKind.u32 (0 : Int)))])])))))
                                else
                                  (Tree.fail)))
                            else
                              (bif (BEq.beq i.op (15 : Int)) then
                                (Tree.letv (okO [AT.b]) (K.taken i.op x2 x0) fun x4 =>
                                (bif x4 then
                                  (Tree.letv (okO [(AT.i IntKind.u32)]) ((i.imm * (4 : Int)) % (4294967296 : Int)) fun x5 =>
                                  (Tree.letv (okO [AT.mach]) (K.wput m (0 : Int) (0 : Int) ((m.core.pc + x5) % (4294967296 : Int))) fun x6 =>
                                  (Tree.leaf (SV.tup [(SV.agg [(SV.arr IntKind.u32 16 x6.core.regs), (SV.v (Value.int IntKind.u32 x6.core.pc)), (SV.arr IntKind.u32 12 x6.core.csr), (SV.rd ETy.u8 x6.mem), (SV.v (Value.int IntKind.u64 x6.time)), (SV.rd ETy.u8 x6.out), (SV.v (Value.bool x6.halted))]), (SV.agg [(SV.v (Value.int IntKind.i64 (0 : Int))), (SV.v (Value.int IntKind.u32 (0 : Int)))])]))))
                                else
                                  (Tree.letv (okO [AT.mach]) (K.wput m (0 : Int) (0 : Int) ((m.core.pc + (4 : Int)) % (4294967296 : Int))) fun x5 =>
                                  (Tree.leaf (SV.tup [(SV.agg [(SV.arr IntKind.u32 16 x5.core.regs), (SV.v (Value.int IntKind.u32 x5.core.pc)), (SV.arr IntKind.u32 12 x5.core.csr), (SV.rd ETy.u8 x5.mem), (SV.v (Value.int IntKind.u64 x5.time)), (SV.rd ETy.u8 x5.out), (SV.v (Value.bool x5.halted))]), (SV.agg [(SV.v (Value.int IntKind.i64 (0 : Int))), (SV.v (Value.int IntKind.u32 (0 : Int)))])])))))
                              else
                                (bif (BEq.beq i.op (16 : Int)) then
                                  (Tree.letv (okO [AT.b]) (K.taken i.op x2 x0) fun x4 =>
                                  (bif x4 then
                                    (Tree.letv (okO [(AT.i IntKind.u32)]) ((i.imm * (4 : Int)) % (4294967296 : Int)) fun x5 =>
                                    (Tree.letv (okO [AT.mach]) (K.wput m (0 : Int) (0 : Int) ((m.core.pc + x5) % (4294967296 : Int))) fun x6 =>
                                    (Tree.leaf (SV.tup [(SV.agg [(SV.arr IntKind.u32 16 x6.core.regs), (SV.v (Value.int IntKind.u32 x6.core.pc)), (SV.arr IntKind.u32 12 x6.core.csr), (SV.rd ETy.u8 x6.mem), (SV.v (Value.int IntKind.u64 x6.time)), (SV.rd ETy.u8 x6.out), (SV.v (Value.bool x6.halted))]), (SV.agg [(SV.v (Value.int IntKind.i64 (0 : Int))), (SV.v (Value.int IntKind.u32 (0 : Int)))])]))))
                                  else
                                    (Tree.letv (okO [AT.mach]) (K.wput m (0 : Int) (0 : Int) ((m.core.pc + (4 : Int)) % (4294967296 : Int))) fun x5 =>
                                    (Tree.leaf (SV.tup [(SV.agg [(SV.arr IntKind.u32 16 x5.core.regs), (SV.v (Value.int IntKind.u32 x5.core.pc)), (SV.arr IntKind.u32 12 x5.core.csr), (SV.rd ETy.u8 x5.mem), (SV.v (Value.int IntKind.u64 x5.time)), (SV.rd ETy.u8 x5.out), (SV.v (Value.bool x5.halted))]), (SV.agg [(SV.v (Value.int IntKind.i64 (0 : Int))), (SV.v (Value.int IntKind.u32 (0 : Int)))])])))))
                                else
                                  (bif (BEq.beq i.op (17 : Int)) then
                                    (Tree.letv (okO [AT.b]) (K.taken i.op x2 x0) fun x4 =>
                                    (bif x4 then
                                      (Tree.letv (okO [(AT.i IntKind.u32)]) ((i.imm * (4 : Int)) % (4294967296 : Int)) fun x5 =>
                                      (Tree.letv (okO [AT.mach]) (K.wput m (0 : Int) (0 : Int) ((m.core.pc + x5) % (4294967296 : Int))) fun x6 =>
                                      (Tree.leaf (SV.tup [(SV.agg [(SV.arr IntKind.u32 16 x6.core.regs), (SV.v (Value.int IntKind.u32 x6.core.pc)), (SV.arr IntKind.u32 12 x6.core.csr), (SV.rd ETy.u8 x6.mem), (SV.v (Value.int IntKind.u64 x6.time)), (SV.rd ETy.u8 x6.out), (SV.v (Value.bool x6.halted))]), (SV.agg [(SV.v (Value.int IntKind.i64 (0 : Int))), (SV.v (Value.int IntKind.u32 (0 : Int)))])]))))
                                    else
                                      (Tree.letv (okO [AT.mach]) (K.wput m (0 : Int) (0 : Int) ((m.core.pc + (4 : Int)) % (4294967296 : Int))) fun x5 =>
                                      (Tree.leaf (SV.tup [(SV.agg [(SV.arr IntKind.u32 16 x5.core.regs), (SV.v (Value.int IntKind.u32 x5.core.pc)), (SV.arr IntKind.u32 12 x5.core.csr), (SV.rd ETy.u8 x5.mem), (SV.v (Value.int IntKind.u64 x5.time)), (SV.rd ETy.u8 x5.out), (SV.v (Value.bool x5.halted))]), (SV.agg [(SV.v (Value.int IntKind.i64 (0 : Int))), (SV.v (Value.int IntKind.u32 (0 : Int)))])])))))
                                  else
                                    (bif (BEq.beq i.op (18 : Int)) then
                                      (Tree.letv (okO [(AT.i IntKind.u32)]) ((i.imm * (4 : Int)) % (4294967296 : Int)) fun x4 =>
                                      (Tree.letv (okO [AT.mach]) (K.wput m i.rd (IntKind.wrap IntKind.u32 (m.core.pc + (4 : Int))) ((m.core.pc + x4) % (4294967296 : Int))) fun x5 =>
                                      (Tree.leaf (SV.tup [(SV.agg [(SV.arr IntKind.u32 16 x5.core.regs), (SV.v (Value.int IntKind.u32 x5.core.pc)), (SV.arr IntKind.u32 12 x5.core.csr), (SV.rd ETy.u8 x5.mem), (SV.v (Value.int IntKind.u64 x5.time)), (SV.rd ETy.u8 x5.out), (SV.v (Value.bool x5.halted))]), (SV.agg [(SV.v (Value.int IntKind.i64 (0 : Int))), (SV.v (Value.int IntKind.u32 (0 : Int)))])]))))
                                    else
                                      (bif (BEq.beq i.op (19 : Int)) then
                                        (Tree.letv (okO [AT.mach]) (K.wput m i.rd (IntKind.wrap IntKind.u32 (m.core.pc + (4 : Int))) ((m.core.pc + (0 : Int)) % (4294967296 : Int))) fun x4 =>
                                        (Tree.leaf (SV.tup [(SV.agg [(SV.arr IntKind.u32 16 x4.core.regs), (SV.v (Value.int IntKind.u32 (IntKind.wrap IntKind.u32 (x0 + x3)))), (SV.arr IntKind.u32 12 x4.core.csr), (SV.rd ETy.u8 x4.mem), (SV.v (Value.int IntKind.u64 x4.time)), (SV.rd ETy.u8 x4.out), (SV.v (Value.bool x4.halted))]), (SV.agg [(SV.v (Value.int IntKind.i64 (0 : Int))), (SV.v (Value.int IntKind.u32 (0 : Int)))])])))
                                      else
                                        (Tree.leaf (SV.tup [(SV.agg [(SV.arr IntKind.u32 16 m.core.regs), (SV.v (Value.int IntKind.u32 m.core.pc)), (SV.arr IntKind.u32 12 m.core.csr), (SV.rd ETy.u8 m.mem), (SV.v (Value.int IntKind.u64 m.time)), (SV.rd ETy.u8 m.out), (SV.v (Value.bool m.halted))]), (SV.agg [(SV.v (Value.int IntKind.i64 (5 : Int))), (SV.v (Value.int IntKind.u32 (0 : Int)))])])))))))))))))))))))))))) := by kernel_rfl
section
attribute [local irreducible] evF evFL
theorem a_ref11_Do (m : PMach) (i : PInstr) (hpre : 1 ≤ i.op ∧ i.op ≤ 20 ∧ m.mem.length ≤ 1099511627776) (ok_m : okMach m) (ok_i : okInstr i) : (evF E_ref11_Do 60 20 (encArgs [.mach, .instr] (m, i, ()))).ends fun out_ => decO [.mach, .trap] out_ = some (K.exec m i) := by
  rw [t_ref11_Do, Tree.ends_holds]
  obtain ⟨im0, im1⟩ := okI_i32 ok_i.imm
  have hpre1 := hpre.1
  have hpre2 := hpre.2.1
  have hpre3 := hpre.2.2
  simp only [Tree.holds_loop, Tree.holds_fork, Tree.holds_next, if_true, Tree.holds_cond, Tree.holds_letv, Tree.holds_leaf, Tree.holds_fail, decO, decA, decTup, decMach, decCore, decTrap, decInstr, decPart, decGuest, decConf, decEvent, decVcpu, decStep, bytesS, boolS, eventsS, intsS, guestsS, vcpusS, rowS, castL, Option.bind_some, Option.map_some, Option.some.injEq, Nat.beq_refl, beq_self_eq_true, Bool.and_self, cond_true, cond_false, eq_self, beq_iff_eq, beq_eq_false_iff_ne, bne_iff_ne, bne_eq_false_iff_eq, ne_eq, decide_eq_true_eq, decide_eq_false_iff_not, ble_true, ble_false, inRange_iff, inRange_false, wrap32]
  have e0 : (K.get m.core.regs i.ra + i.imm * 1 % 4294967296) % 4294967296 = K.ea m i := by unfold K.ea; rw [Int.mul_one]
  have e1 : i.imm * 4 % 4294967296 = K.far i := by unfold K.far; omega
  have e2 : i.imm * 16384 % 4294967296 = i.imm % 4294967296 * 16384 % 4294967296 := by omega
  have put0 : ∀ (x : PMach) (v p : Int), K.wput x 0 v p = K.wpc x p := fun x v p => by unfold K.wput K.wpc K.put; rw [if_neg (by omega)]
  simp only [e0, e1, e2, put0]
  clear ok_m ok_i im0 im1
  unfold K.exec
  have ss := fun a n v => store_same (m := m) (a := a) (n := n) (v := v)
  repeat' (first | refine drop_ok ?_ | intro _ | with_reducible apply And.intro)
  all_goals first
    | omega
    | (exfalso; rename_i q; apply q; first | omega | (split <;> omega))
    | (rw [if_neg (by omega), if_neg (by omega), if_neg (by omega), if_neg (by omega), if_neg (by omega), if_neg (by omega), if_neg (by omega)]; first | (rw [if_pos (by assumption)]; rfl) | (rw [if_neg (by omega)]))
    | (simp_all; done)
    | (simp_all; omega)
    | trace_state
  
theorem c_ref11_Do : SpecOk EB 20 S_ref11_Do := spec_sig ok_ref11_Do (n := 60) fun ⟨m, i, ⟨⟩⟩ h hok => a_ref11_Do m i (of_decide_eq_true h) (ok_mach (okSL_head hok)) (ok_instr (okSL_head (okSL_tail hok)))
end

/-! ref09_Enter -/

def S_ref09_Enter : Spec := sig [.core, .trap] [.core] (fun (c, t, _) => K.enter c t)
noncomputable def E_ref09_Enter : Env := EB.adds [(42, S_ref01_Put), (41, S_ref01_Field)]

theorem ok_ref09_Enter : EnvOk E_ref09_Enter := okEB.adds (l := _) ⟨c_ref01_Put, c_ref01_Field, trivial⟩

theorem t_ref09_Enter (c : PCore) (t : PTrap) : evF E_ref09_Enter 60 21 (encArgs [.core, .trap] (c, t, ())) = 
  bif (BEq.beq t.cause (0 : Int)) then
    (Tree.leaf (SV.agg [(SV.arr IntKind.u32 16 c.regs), (SV.v (Value.int IntKind.u32 c.pc)), (SV.arr IntKind.u32 12 c.csr)]))
  else
    (Tree.letv (okO [(AT.i IntKind.u32)]) (K.field (List.getD c.csr 0 (0 : Int)) (0 : Int) (1 : Int)) fun x0 =>
    (Tree.letv (okO [(AT.i IntKind.u32)]) (K.field (List.getD c.csr 0 (0 : Int)) (1 : Int) (1 : Int)) fun x1 =>
    (Tree.letv (okO [(AT.i IntKind.u32)]) (K.bput (List.getD c.csr 0 (0 : Int)) (0 : Int) (4 : Int) (IntKind.wrap IntKind.u32 ((IntKind.wrap IntKind.u32 ((1 : Int) + (IntKind.wrap IntKind.u32 ((4 : Int) * x0)))) + (IntKind.wrap IntKind.u32 ((8 : Int) * x1))))) fun x2 =>
    (Tree.leaf (SV.agg [(SV.arr IntKind.u32 16 c.regs), (SV.v (Value.int IntKind.u32 (List.getD (List.set (List.set (List.set (List.set c.csr 0 x2) 1 c.pc) 2 (IntKind.wrap IntKind.u32 t.cause)) 3 t.tval) 4 (0 : Int)))), (SV.arr IntKind.u32 12 (List.set (List.set (List.set (List.set c.csr 0 x2) 1 c.pc) 2 (IntKind.wrap IntKind.u32 t.cause)) 3 t.tval))]))))) := by kernel_rfl
section
attribute [local irreducible] evF evFL
theorem a_ref09_Enter (c : PCore) (t : PTrap) (ok_c : okCore c) (ok_t : okTrap t) : (evF E_ref09_Enter 60 21 (encArgs [.core, .trap] (c, t, ()))).ends fun out_ => decO [.core] out_ = some (K.enter c t) := by
  rw [t_ref09_Enter, Tree.ends_holds]
  obtain ⟨s0, s1⟩ := ok_c.csr.u32 (i := 0) (by omega)
  obtain ⟨a0, a1, a2, a3, a4, a5, a6, a7, a8, a9, a10, a11, hc⟩ := list12 ok_c.csr.1
  have hs : c.csr.getD 0 0 = a0 := by rw [hc]; rfl
  rw [hs] at s0 s1
  simp only [Tree.holds_loop, Tree.holds_fork, Tree.holds_next, if_true, Tree.holds_cond, Tree.holds_letv, Tree.holds_leaf, Tree.holds_fail, decO, decA, decTup, decMach, decCore, decTrap, decInstr, decPart, decGuest, decConf, decEvent, decVcpu, decStep, bytesS, boolS, eventsS, intsS, guestsS, vcpusS, rowS, castL, Option.bind_some, Option.map_some, Option.some.injEq, Nat.beq_refl, beq_self_eq_true, Bool.and_self, cond_true, cond_false, eq_self, beq_iff_eq, beq_eq_false_iff_ne, bne_iff_ne, bne_eq_false_iff_eq, ne_eq, decide_eq_true_eq, decide_eq_false_iff_not, ble_true, ble_false, inRange_iff, inRange_false, K.enter, hc, wrap32]
  simp only [List.set_cons_zero, List.set_cons_succ, List.getD_cons_zero, List.getD_cons_succ]
  refine ⟨fun h => ?_, fun h => ?_⟩
  · rw [if_pos h, ← hc]
  rw [if_neg h]
  unfold K.enterS
  have f0 : K.field a0 0 1 = a0 % 2 := by simp [K.field, K.pow]
  have f1 : K.field a0 1 1 = a0 / 2 % 2 := by simp [K.field, K.pow]
  have p : ∀ x v : Int, K.bput x 0 4 v = ((16 * (x.toNat / 16) + v.toNat % 16 : Nat) : Int) := fun x v => by simp [K.bput, Nat.mod_one]
  rw [f0, f1, p]
  intro _ _ _
  simp only [PCore.mk.injEq, List.cons.injEq, and_true, true_and]
  show @Eq Int _ _
  omega
  
theorem c_ref09_Enter : SpecOk EB 21 S_ref09_Enter := spec_sig ok_ref09_Enter (n := 60) fun ⟨c, t, ⟨⟩⟩ h hok => a_ref09_Enter c t (ok_core (okSL_head hok)) (ok_trap (okSL_head (okSL_tail hok)))
end

/-! ref13_Plain -/

def S_ref13_Plain : Spec := sig [.mach] [.mach, .trap] (fun (m, _) => K.plain m) (pre := fun (m, _) => decide (m.mem.length ≤ 1099511627776 ∧ m.out.length ≤ 1099511627776))
noncomputable def E_ref13_Plain : Env := EB.adds [(17, S_ref13_Now), (18, S_ref02_Privileged), (19, S_ref12_Do), (20, S_ref11_Do), (21, S_ref09_Enter)]

theorem ok_ref13_Plain : EnvOk E_ref13_Plain := okEB.adds (l := _) ⟨c_ref13_Now, c_ref02_Privileged, c_ref12_Do, c_ref11_Do, c_ref09_Enter, trivial⟩

theorem t_ref13_Plain (m : PMach) : evF E_ref13_Plain 60 8 (encArgs [.mach] (m, ())) = 
  bif m.halted then
    (Tree.leaf (SV.tup [(SV.agg [(SV.arr IntKind.u32 16 m.core.regs), (SV.v (Value.int IntKind.u32 m.core.pc)), (SV.arr IntKind.u32 12 m.core.csr), (SV.rd ETy.u8 m.mem), (SV.v (Value.int IntKind.u64 m.time)), (SV.rd ETy.u8 m.out), (SV.v (Value.bool m.halted))]), (SV.agg [(SV.v (Value.int IntKind.i64 (0 : Int))), (SV.v (Value.int IntKind.u32 (0 : Int)))])]))
  else
    (Tree.letv (okO [AT.instr, AT.trap]) (K.cur m) fun x0 =>
    (bif (BEq.beq x0.snd.cause (0 : Int)) then
      (Tree.letv (okO [AT.b]) (K.privd x0.fst.op) fun x1 =>
      (bif x1 then
        (bif (decide ((List.length m.out) ≤ 1099511627776)) then
          (Tree.letv (okO [AT.mach]) (K.priv m x0.fst) fun x2 =>
          (bif (BEq.beq x0.snd.cause (0 : Int)) then
            (Tree.letv (okO [AT.b]) (K.privd x0.fst.op) fun x3 =>
            (bif x3 then
              (bif (bne x0.snd.cause (0 : Int)) then
                (Tree.letv (okO [AT.core]) (K.enter x2.core x0.snd) fun x4 =>
                (Tree.leaf (SV.tup [(SV.agg [(SV.arr IntKind.u32 16 x4.regs), (SV.v (Value.int IntKind.u32 x4.pc)), (SV.arr IntKind.u32 12 x4.csr), (SV.rd ETy.u8 x2.mem), (SV.v (Value.int IntKind.u64 (IntKind.wrap IntKind.u64 (m.time + (1 : Int))))), (SV.rd ETy.u8 x2.out), (SV.v (Value.bool x2.halted))]), (SV.agg [(SV.v (Value.int IntKind.i64 x0.snd.cause)), (SV.v (Value.int IntKind.u32 x0.snd.tval))])])))
              else
                (Tree.leaf (SV.tup [(SV.agg [(SV.arr IntKind.u32 16 x2.core.regs), (SV.v (Value.int IntKind.u32 x2.core.pc)), (SV.arr IntKind.u32 12 x2.core.csr), (SV.rd ETy.u8 x2.mem), (SV.v (Value.int IntKind.u64 (IntKind.wrap IntKind.u64 (m.time + (1 : Int))))), (SV.rd ETy.u8 x2.out), (SV.v (Value.bool x2.halted))]), (SV.agg [(SV.v (Value.int IntKind.i64 x0.snd.cause)), (SV.v (Value.int IntKind.u32 x0.snd.tval))])])))
            else
              (bif (decide (And ((1 : Int) ≤ x0.fst.op) (And (x0.fst.op ≤ (20 : Int)) ((List.length m.mem) ≤ 1099511627776)))) then
                (Tree.letv (okO [AT.mach, AT.trap]) (K.exec m x0.fst) fun x4 =>
                (bif (bne x4.snd.cause (0 : Int)) then
                  (Tree.letv (okO [AT.core]) (K.enter x4.fst.core x4.snd) fun x5 =>
                  (Tree.leaf (SV.tup [(SV.agg [(SV.arr IntKind.u32 16 x5.regs), (SV.v (Value.int IntKind.u32 x5.pc)), (SV.arr IntKind.u32 12 x5.csr), (SV.rd ETy.u8 x4.fst.mem), (SV.v (Value.int IntKind.u64 (IntKind.wrap IntKind.u64 (m.time + (1 : Int))))), (SV.rd ETy.u8 x4.fst.out), (SV.v (Value.bool x4.fst.halted))]), (SV.agg [(SV.v (Value.int IntKind.i64 x4.snd.cause)), (SV.v (Value.int IntKind.u32 x4.snd.tval))])])))
                else
                  (Tree.leaf (SV.tup [(SV.agg [(SV.arr IntKind.u32 16 x4.fst.core.regs), (SV.v (Value.int IntKind.u32 x4.fst.core.pc)), (SV.arr IntKind.u32 12 x4.fst.core.csr), (SV.rd ETy.u8 x4.fst.mem), (SV.v (Value.int IntKind.u64 (IntKind.wrap IntKind.u64 (m.time + (1 : Int))))), (SV.rd ETy.u8 x4.fst.out), (SV.v (Value.bool x4.fst.halted))]), (SV.agg [(SV.v (Value.int IntKind.i64 x4.snd.cause)), (SV.v (Value.int IntKind.u32 x4.snd.tval))])]))))
              else
                (Tree.fail))))
          else
            (bif (bne x0.snd.cause (0 : Int)) then
              (Tree.letv (okO [AT.core]) (K.enter x2.core x0.snd) fun x3 =>
              (Tree.leaf (SV.tup [(SV.agg [(SV.arr IntKind.u32 16 x3.regs), (SV.v (Value.int IntKind.u32 x3.pc)), (SV.arr IntKind.u32 12 x3.csr), (SV.rd ETy.u8 x2.mem), (SV.v (Value.int IntKind.u64 (IntKind.wrap IntKind.u64 (m.time + (1 : Int))))), (SV.rd ETy.u8 x2.out), (SV.v (Value.bool x2.halted))]), (SV.agg [(SV.v (Value.int IntKind.i64 x0.snd.cause)), (SV.v (Value.int IntKind.u32 x0.snd.tval))])])))
            else
              (Tree.leaf (SV.tup [(SV.agg [(SV.arr IntKind.u32 16 x2.core.regs), (SV.v (Value.int IntKind.u32 x2.core.pc)), (SV.arr IntKind.u32 12 x2.core.csr), (SV.rd ETy.u8 x2.mem), (SV.v (Value.int IntKind.u64 (IntKind.wrap IntKind.u64 (m.time + (1 : Int))))), (SV.rd ETy.u8 x2.out), (SV.v (Value.bool x2.halted))]), (SV.agg [(SV.v (Value.int IntKind.i64 x0.snd.cause)), (SV.v (Value.int IntKind.u32 x0.snd.tval))])])))))
        else
          (Tree.fail))
      else
        (bif (BEq.beq x0.snd.cause (0 : Int)) then
          (Tree.letv (okO [AT.b]) (K.privd x0.fst.op) fun x2 =>
          (bif x2 then
            (bif (bne x0.snd.cause (0 : Int)) then
              (Tree.letv (okO [AT.core]) (K.enter m.core x0.snd) fun x3 =>
              (Tree.leaf (SV.tup [(SV.agg [(SV.arr IntKind.u32 16 x3.regs), (SV.v (Value.int IntKind.u32 x3.pc)), (SV.arr IntKind.u32 12 x3.csr), (SV.rd ETy.u8 m.mem), (SV.v (Value.int IntKind.u64 (IntKind.wrap IntKind.u64 (m.time + (1 : Int))))), (SV.rd ETy.u8 m.out), (SV.v (Value.bool m.halted))]), (SV.agg [(SV.v (Value.int IntKind.i64 x0.snd.cause)), (SV.v (Value.int IntKind.u32 x0.snd.tval))])])))
            else
              (Tree.leaf (SV.tup [(SV.agg [(SV.arr IntKind.u32 16 m.core.regs), (SV.v (Value.int IntKind.u32 m.core.pc)), (SV.arr IntKind.u32 12 m.core.csr), (SV.rd ETy.u8 m.mem), (SV.v (Value.int IntKind.u64 (IntKind.wrap IntKind.u64 (m.time + (1 : Int))))), (SV.rd ETy.u8 m.out), (SV.v (Value.bool m.halted))]), (SV.agg [(SV.v (Value.int IntKind.i64 x0.snd.cause)), (SV.v (Value.int IntKind.u32 x0.snd.tval))])])))
          else
            (bif (decide (And ((1 : Int) ≤ x0.fst.op) (And (x0.fst.op ≤ (20 : Int)) ((List.length m.mem) ≤ 1099511627776)))) then
              (Tree.letv (okO [AT.mach, AT.trap]) (K.exec m x0.fst) fun x3 =>
              (bif (bne x3.snd.cause (0 : Int)) then
                (Tree.letv (okO [AT.core]) (K.enter x3.fst.core x3.snd) fun x4 =>
                (Tree.leaf (SV.tup [(SV.agg [(SV.arr IntKind.u32 16 x4.regs), (SV.v (Value.int IntKind.u32 x4.pc)), (SV.arr IntKind.u32 12 x4.csr), (SV.rd ETy.u8 x3.fst.mem), (SV.v (Value.int IntKind.u64 (IntKind.wrap IntKind.u64 (m.time + (1 : Int))))), (SV.rd ETy.u8 x3.fst.out), (SV.v (Value.bool x3.fst.halted))]), (SV.agg [(SV.v (Value.int IntKind.i64 x3.snd.cause)), (SV.v (Value.int IntKind.u32 x3.snd.tval))])])))
              else
                (Tree.leaf (SV.tup [(SV.agg [(SV.arr IntKind.u32 16 x3.fst.core.regs), (SV.v (Value.int IntKind.u32 x3.fst.core.pc)), (SV.arr IntKind.u32 12 x3.fst.core.csr), (SV.rd ETy.u8 x3.fst.mem), (SV.v (Value.int IntKind.u64 (IntKind.wrap IntKind.u64 (m.time + (1 : Int))))), (SV.rd ETy.u8 x3.fst.out), (SV.v (Value.bool x3.fst.halted))]), (SV.agg [(SV.v (Value.int IntKind.i64 x3.snd.cause)), (SV.v (Value.int IntKind.u32 x3.snd.tval))])]))))
            else
              (Tree.fail))))
        else
          (bif (bne x0.snd.cause (0 : Int)) then
            (Tree.letv (okO [AT.core]) (K.enter m.core x0.snd) fun x2 =>
            (Tree.leaf (SV.tup [(SV.agg [(SV.arr IntKind.u32 16 x2.regs), (SV.v (Value.int IntKind.u32 x2.pc)), (SV.arr IntKind.u32 12 x2.csr), (SV.rd ETy.u8 m.mem), (SV.v (Value.int IntKind.u64 (IntKind.wrap IntKind.u64 (m.time + (1 : Int))))), (SV.rd ETy.u8 m.out), (SV.v (Value.bool m.halted))]), (SV.agg [(SV.v (Value.int IntKind.i64 x0.snd.cause)), (SV.v (Value.int IntKind.u32 x0.snd.tval))])])))
          else
            (Tree.leaf (SV.tup [(SV.agg [(SV.arr IntKind.u32 16 m.core.regs), (SV.v (Value.int IntKind.u32 m.core.pc)), (SV.arr IntKind.u32 12 m.core.csr), (SV.rd ETy.u8 m.mem), (SV.v (Value.int IntKind.u64 (IntKind.wrap IntKind.u64 (m.time + (1 : Int))))), (SV.rd ETy.u8 m.out), (SV.v (Value.bool m.halted))]), (SV.agg [(SV.v (Value.int IntKind.i64 x0.snd.cause)), (SV.v (Value.int IntKind.u32 x0.snd.tval))])]))))))
    else
      (bif (BEq.beq x0.snd.cause (0 : Int)) then
        (Tree.letv (okO [AT.b]) (K.privd x0.fst.op) fun x1 =>
        (bif x1 then
          (bif (bne x0.snd.cause (0 : Int)) then
            (Tree.letv (okO [AT.core]) (K.enter m.core x0.snd) fun x2 =>
            (Tree.leaf (SV.tup [(SV.agg [(SV.arr IntKind.u32 16 x2.regs), (SV.v (Value.int IntKind.u32 x2.pc)), (SV.arr IntKind.u32 12 x2.csr), (SV.rd ETy.u8 m.mem), (SV.v (Value.int IntKind.u64 (IntKind.wrap IntKind.u64 (m.time + (1 : Int))))), (SV.rd ETy.u8 m.out), (SV.v (Value.bool m.halted))]), (SV.agg [(SV.v (Value.int IntKind.i64 x0.snd.cause)), (SV.v (Value.int IntKind.u32 x0.snd.tval))])])))
          else
            (Tree.leaf (SV.tup [(SV.agg [(SV.arr IntKind.u32 16 m.core.regs), (SV.v (Value.int IntKind.u32 m.core.pc)), (SV.arr IntKind.u32 12 m.core.csr), (SV.rd ETy.u8 m.mem), (SV.v (Value.int IntKind.u64 (IntKind.wrap IntKind.u64 (m.time + (1 : Int))))), (SV.rd ETy.u8 m.out), (SV.v (Value.bool m.halted))]), (SV.agg [(SV.v (Value.int IntKind.i64 x0.snd.cause)), (SV.v (Value.int IntKind.u32 x0.snd.tval))])])))
        else
          (bif (decide (And ((1 : Int) ≤ x0.fst.op) (And (x0.fst.op ≤ (20 : Int)) ((List.length m.mem) ≤ 1099511627776)))) then
            (Tree.letv (okO [AT.mach, AT.trap]) (K.exec m x0.fst) fun x2 =>
            (bif (bne x2.snd.cause (0 : Int)) then
              (Tree.letv (okO [AT.core]) (K.enter x2.fst.core x2.snd) fun x3 =>
              (Tree.leaf (SV.tup [(SV.agg [(SV.arr IntKind.u32 16 x3.regs), (SV.v (Value.int IntKind.u32 x3.pc)), (SV.arr IntKind.u32 12 x3.csr), (SV.rd ETy.u8 x2.fst.mem), (SV.v (Value.int IntKind.u64 (IntKind.wrap IntKind.u64 (m.time + (1 : Int))))), (SV.rd ETy.u8 x2.fst.out), (SV.v (Value.bool x2.fst.halted))]), (SV.agg [(SV.v (Value.int IntKind.i64 x2.snd.cause)), (SV.v (Value.int IntKind.u32 x2.snd.tval))])])))
            else
              (Tree.leaf (SV.tup [(SV.agg [(SV.arr IntKind.u32 16 x2.fst.core.regs), (SV.v (Value.int IntKind.u32 x2.fst.core.pc)), (SV.arr IntKind.u32 12 x2.fst.core.csr), (SV.rd ETy.u8 x2.fst.mem), (SV.v (Value.int IntKind.u64 (IntKind.wrap IntKind.u64 (m.time + (1 : Int))))), (SV.rd ETy.u8 x2.fst.out), (SV.v (Value.bool x2.fst.halted))]), (SV.agg [(SV.v (Value.int IntKind.i64 x2.snd.cause)), (SV.v (Value.int IntKind.u32 x2.snd.tval))])]))))
          else
            (Tree.fail))))
      else
        (bif (bne x0.snd.cause (0 : Int)) then
          (Tree.letv (okO [AT.core]) (K.enter m.core x0.snd) fun x1 =>
          (Tree.leaf (SV.tup [(SV.agg [(SV.arr IntKind.u32 16 x1.regs), (SV.v (Value.int IntKind.u32 x1.pc)), (SV.arr IntKind.u32 12 x1.csr), (SV.rd ETy.u8 m.mem), (SV.v (Value.int IntKind.u64 (IntKind.wrap IntKind.u64 (m.time + (1 : Int))))), (SV.rd ETy.u8 m.out), (SV.v (Value.bool m.halted))]), (SV.agg [(SV.v (Value.int IntKind.i64 x0.snd.cause)), (SV.v (Value.int IntKind.u32 x0.snd.tval))])])))
        else
          (Tree.leaf (SV.tup [(SV.agg [(SV.arr IntKind.u32 16 m.core.regs), (SV.v (Value.int IntKind.u32 m.core.pc)), (SV.arr IntKind.u32 12 m.core.csr), (SV.rd ETy.u8 m.mem), (SV.v (Value.int IntKind.u64 (IntKind.wrap IntKind.u64 (m.time + (1 : Int))))), (SV.rd ETy.u8 m.out), (SV.v (Value.bool m.halted))]), (SV.agg [(SV.v (Value.int IntKind.i64 x0.snd.cause)), (SV.v (Value.int IntKind.u32 x0.snd.tval))])])))))) := by kernel_rfl
section
attribute [local irreducible] evF evFL
theorem a_ref13_Plain (m : PMach) (hpre : m.mem.length ≤ 1099511627776 ∧ m.out.length ≤ 1099511627776) (ok_m : okMach m) : (evF E_ref13_Plain 60 8 (encArgs [.mach] (m, ()))).ends fun out_ => decO [.mach, .trap] out_ = some (K.plain m) := by
  rw [t_ref13_Plain, Tree.ends_holds]
  have hmay := fun h => cur_may (m := m) h
  have hz := fun h => cur_zero (m := m) h
  simp only [Tree.holds_loop, Tree.holds_fork, Tree.holds_next, if_true, Tree.holds_cond, Tree.holds_letv, Tree.holds_leaf, Tree.holds_fail, decO, decA, decTup, decMach, decCore, decTrap, decInstr, decPart, decGuest, decConf, decEvent, decVcpu, decStep, bytesS, boolS, eventsS, intsS, guestsS, vcpusS, rowS, castL, Option.bind_some, Option.map_some, Option.some.injEq, Nat.beq_refl, beq_self_eq_true, Bool.and_self, cond_true, cond_false, eq_self, beq_iff_eq, beq_eq_false_iff_ne, bne_iff_ne, bne_eq_false_iff_eq, ne_eq, decide_eq_true_eq, decide_eq_false_iff_not, ble_true, ble_false, inRange_iff, inRange_false, wrap64]
  have x0 : m.halted = true → K.plain m = (m, ⟨0, 0⟩) := fun h => by unfold K.plain; rw [if_pos h]
  have x1 : m.halted = false → ¬ (K.cur m).2.cause = 0 → K.plain m = K.endS m (K.cur m).2 := fun h c => by unfold K.plain; rw [if_neg (by rw [h]; decide), if_pos c]
  have x2 : m.halted = false → (K.cur m).2.cause = 0 → K.privd (K.cur m).1.op = true → K.plain m = K.endS (K.priv m (K.cur m).1) ⟨0, 0⟩ := fun h c p => by unfold K.plain; rw [if_neg (by rw [h]; decide), if_neg (by simp [c]), if_pos p]
  have x3 : m.halted = false → (K.cur m).2.cause = 0 → K.privd (K.cur m).1.op = false → K.plain m = K.endS (K.exec m (K.cur m).1).1 (K.exec m (K.cur m).1).2 := fun h c p => by unfold K.plain; rw [if_neg (by rw [h]; decide), if_neg (by simp [c]), if_neg (by rw [p]; decide)]
  repeat' (first | refine drop_ok ?_ | intro _ | with_reducible apply And.intro)
  all_goals first
    | omega
    | contradiction
    | (rw [x0 (by assumption)]; done)
    | (rw [x1 (by assumption) (by assumption)]; rfl)
    | (rw [x2 (by assumption) (by assumption) (by assumption), hz (by assumption)]; unfold K.endS; rw [enter_none, K.priv_time]; done)
    | (rw [x3 (by assumption) (by assumption) (by assumption)]; unfold K.endS; rw [exec_time]; first | (rw [enter_zero (by assumption)]; done) | done)
    | (exfalso
       have hm := (hmay (by assumption)).op
       rename_i p q
       apply q
       refine ⟨hm.1, ?_, hpre.1⟩
       have : ¬ (21 ≤ (K.cur m).1.op ∧ (K.cur m).1.op ≤ 25) := fun z => by rw [privd_range.2 z] at p; cases p
       omega)
    | (exfalso; clear x0 x1 x2 x3 hmay hz; simp_all; done)
    | trace_state
  
theorem c_ref13_Plain : SpecOk EB 8 S_ref13_Plain := spec_sig ok_ref13_Plain (n := 60) fun ⟨m, ⟨⟩⟩ h hok => a_ref13_Plain m (of_decide_eq_true h) (ok_mach (okSL_head hok))
end

/-! regs_ClearZero -/

def S_regs_ClearZero : Spec := sig [.a .u32 16] [.a .u32 16] (fun (r, _) => r.set 0 0)
noncomputable def E_regs_ClearZero : Env := EB.adds []

theorem ok_regs_ClearZero : EnvOk E_regs_ClearZero := okEB.adds (l := _) trivial

theorem t_regs_ClearZero (r : List Int) : evF E_regs_ClearZero 60 72 (encArgs [.a .u32 16] (r, ())) = 
  Tree.leaf (SV.agg [(SV.arr IntKind.u32 16 (List.set r 0 (0 : Int)))]) := by kernel_rfl
section
attribute [local irreducible] evF evFL
theorem a_regs_ClearZero (r : List Int) (ok_r : okL .u32 16 r) : (evF E_regs_ClearZero 60 72 (encArgs [.a .u32 16] (r, ()))).ends fun out_ => decO [.a .u32 16] out_ = some (r.set 0 0) := by
  rw [t_regs_ClearZero, Tree.ends_holds]
  simp only [Tree.holds_loop, Tree.holds_fork, Tree.holds_next, if_true, Tree.holds_cond, Tree.holds_letv, Tree.holds_leaf, Tree.holds_fail, decO, decA, decTup, decMach, decCore, decTrap, decInstr, decPart, decGuest, decConf, decEvent, decVcpu, decStep, bytesS, boolS, eventsS, intsS, guestsS, vcpusS, rowS, castL, Option.bind_some, Option.map_some, Option.some.injEq, Nat.beq_refl, beq_self_eq_true, Bool.and_self, cond_true, cond_false, eq_self]
  
theorem c_regs_ClearZero : SpecOk EB 72 S_regs_ClearZero := spec_sig ok_regs_ClearZero (n := 60) fun ⟨r, ⟨⟩⟩ h hok => a_regs_ClearZero r (ok_arr (okSL_head hok))
end

/-! save_Restore -/

def S_save_Restore : Spec := sig [.mach, .vcpu] [.mach] (fun (host, v, _) => K.restore host v)
noncomputable def E_save_Restore : Env := EB.adds [(72, S_regs_ClearZero)]

theorem ok_save_Restore : EnvOk E_save_Restore := okEB.adds (l := _) ⟨c_regs_ClearZero, trivial⟩

theorem t_save_Restore (host : PMach) (v : PVcpu) : evF E_save_Restore 60 22 (encArgs [.mach, .vcpu] (host, v, ())) = 
  Tree.letv (okO [(AT.a IntKind.u32 16)]) (List.set v.core.regs 0 (0 : Int)) fun x0 =>
  (Tree.leaf (SV.agg [(SV.arr IntKind.u32 16 x0), (SV.v (Value.int IntKind.u32 v.core.pc)), (SV.arr IntKind.u32 12 host.core.csr), (SV.rd ETy.u8 host.mem), (SV.v (Value.int IntKind.u64 host.time)), (SV.rd ETy.u8 host.out), (SV.v (Value.bool host.halted))])) := by kernel_rfl
section
attribute [local irreducible] evF evFL
theorem a_save_Restore (host : PMach) (v : PVcpu) (ok_host : okMach host) (ok_v : okVcpu v) : (evF E_save_Restore 60 22 (encArgs [.mach, .vcpu] (host, v, ()))).ends fun out_ => decO [.mach] out_ = some (K.restore host v) := by
  rw [t_save_Restore, Tree.ends_holds]
  simp only [Tree.holds_loop, Tree.holds_fork, Tree.holds_next, if_true, Tree.holds_cond, Tree.holds_letv, Tree.holds_leaf, Tree.holds_fail, decO, decA, decTup, decMach, decCore, decTrap, decInstr, decPart, decGuest, decConf, decEvent, decVcpu, decStep, bytesS, boolS, eventsS, intsS, guestsS, vcpusS, rowS, castL, Option.bind_some, Option.map_some, Option.some.injEq, Nat.beq_refl, beq_self_eq_true, Bool.and_self, cond_true, cond_false, eq_self, K.restore]
  repeat' (first | refine drop_ok ?_ | intro _ | with_reducible apply And.intro)
  all_goals trivial
  
theorem c_save_Restore : SpecOk EB 22 S_save_Restore := spec_sig ok_save_Restore (n := 60) fun ⟨host, v, ⟨⟩⟩ h hok => a_save_Restore host v (ok_mach (okSL_head hok)) (ok_vcpu (okSL_head (okSL_tail hok)))
end

/-! reloc_Compose -/

def S_reloc_Compose : Spec := sig [.part, .core] [.i .u32, .i .u32] (fun (p, c, _) => K.compose p c)
noncomputable def E_reloc_Compose : Env := EB.adds []

theorem ok_reloc_Compose : EnvOk E_reloc_Compose := okEB.adds (l := _) trivial

theorem t_reloc_Compose (p : PPart) (c : PCore) : evF E_reloc_Compose 60 23 (encArgs [.part, .core] (p, c, ())) = 
  bif (bne (andI IntKind.u32 (List.getD c.csr 0 (0 : Int)) (1 : Int)) (0 : Int)) then
    (Tree.leaf (SV.tup [(SV.v (Value.int IntKind.u32 p.base)), (SV.v (Value.int IntKind.u32 p.size))]))
  else
    (bif (BEq.beq (if ((IntKind.wrap IntKind.u64 (IntKind.wrap IntKind.u32 (p.size - (if ((List.getD c.csr 5 (0 : Int)) < p.size) then (List.getD c.csr 5 (0 : Int)) else p.size)))) < (IntKind.wrap IntKind.u64 (List.getD c.csr 6 (0 : Int)))) then (IntKind.wrap IntKind.u64 (IntKind.wrap IntKind.u32 (p.size - (if ((List.getD c.csr 5 (0 : Int)) < p.size) then (List.getD c.csr 5 (0 : Int)) else p.size)))) else (IntKind.wrap IntKind.u64 (List.getD c.csr 6 (0 : Int)))) (0 : Int)) then
      (Tree.leaf (SV.tup [(SV.v (Value.int IntKind.u32 (0 : Int))), (SV.v (Value.int IntKind.u32 (0 : Int)))]))
    else
      (Tree.leaf (SV.tup [(SV.v (Value.int IntKind.u32 (IntKind.wrap IntKind.u32 (p.base + (List.getD c.csr 5 (0 : Int)))))), (SV.v (Value.int IntKind.u32 (IntKind.wrap IntKind.u32 (if ((IntKind.wrap IntKind.u64 (IntKind.wrap IntKind.u32 (p.size - (if ((List.getD c.csr 5 (0 : Int)) < p.size) then (List.getD c.csr 5 (0 : Int)) else p.size)))) < (IntKind.wrap IntKind.u64 (List.getD c.csr 6 (0 : Int)))) then (IntKind.wrap IntKind.u64 (IntKind.wrap IntKind.u32 (p.size - (if ((List.getD c.csr 5 (0 : Int)) < p.size) then (List.getD c.csr 5 (0 : Int)) else p.size)))) else (IntKind.wrap IntKind.u64 (List.getD c.csr 6 (0 : Int)))))))]))) := by kernel_rfl
section
attribute [local irreducible] evF evFL
theorem a_reloc_Compose (p : PPart) (c : PCore) (ok_p : okPart p) (ok_c : okCore c) : (evF E_reloc_Compose 60 23 (encArgs [.part, .core] (p, c, ()))).ends fun out_ => decO [.i .u32, .i .u32] out_ = some (K.compose p c) := by
  rw [t_reloc_Compose, Tree.ends_holds]
  obtain ⟨s0, s1⟩ := ok_c.csr.u32 (i := 0) (by omega)
  obtain ⟨t0, t1⟩ := ok_c.csr.u32 (i := 5) (by omega)
  obtain ⟨u0, u1⟩ := ok_c.csr.u32 (i := 6) (by omega)
  obtain ⟨p0, p1⟩ := okI_u32 ok_p.base
  obtain ⟨q0, q1⟩ := okI_u32 ok_p.size
  simp only [Tree.holds_loop, Tree.holds_fork, Tree.holds_next, if_true, Tree.holds_cond, Tree.holds_letv, Tree.holds_leaf, Tree.holds_fail, decO, decA, decTup, decMach, decCore, decTrap, decInstr, decPart, decGuest, decConf, decEvent, decVcpu, decStep, bytesS, boolS, eventsS, intsS, guestsS, vcpusS, rowS, castL, Option.bind_some, Option.map_some, Option.some.injEq, Nat.beq_refl, beq_self_eq_true, Bool.and_self, cond_true, cond_false, eq_self, beq_iff_eq, beq_eq_false_iff_ne, bne_iff_ne, bne_eq_false_iff_eq, ne_eq, decide_eq_true_eq, decide_eq_false_iff_not, ble_true, ble_false, inRange_iff, inRange_false, and_1 s0 s1, wrap32, wrap64, K.compose, K.super]
  generalize c.csr.getD 0 0 = S at *
  generalize c.csr.getD 5 0 = B at *
  generalize c.csr.getD 6 0 = C at *
  have e : (if (p.size - if B < p.size then B else p.size) % 4294967296 % 18446744073709551616 < C % 18446744073709551616 then (p.size - if B < p.size then B else p.size) % 4294967296 % 18446744073709551616 else C % 18446744073709551616) = min C (p.size - min p.size B) := by
    (repeat' split) <;> omega
  rw [e]
  have e2 : min C (p.size - min p.size B) % 4294967296 = min C (p.size - min p.size B) := by omega
  rw [e2]
  generalize min C (p.size - min p.size B) = H at *
  repeat' (first | refine drop_ok ?_ | intro _ | with_reducible apply And.intro)
  all_goals first
    | (rw [if_pos (by omega)]; done)
    | (rw [if_neg (by omega), if_pos (by omega)]; done)
    | (rw [if_neg (by omega), if_neg (by omega)]; done)
  
theorem c_reloc_Compose : SpecOk EB 23 S_reloc_Compose := spec_sig ok_reloc_Compose (n := 60) fun ⟨p, c, ⟨⟩⟩ h hok => a_reloc_Compose p c (ok_part (okSL_head hok)) (ok_core (okSL_head (okSL_tail hok)))
end


end Go.Proofs.YtnhokcnnhmkbhaaGreatDoor
