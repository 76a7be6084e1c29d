/- Contracts of functions, by evaluation (nothing is claimed here). -/
import Derived.Test.YtmbmahgaejcjiaaGreatDoorSh29
import Derived.KernelRfl
import Derived.Test.YtmbmahgaejcjiaaGreatDoorProg
import Derived.Test.YtmbmahgaejcjiaaGreatDoorTimeSliceMatchesBareGuestB2
set_option linter.unusedVariables false
set_option linter.unusedSimpArgs false
set_option maxRecDepth 100000
set_option maxHeartbeats 1000000
namespace Go.Proofs.YtmbmahgaejcjiaaGreatDoor
open Go
/-! reloc_TranslateCore -/

def S_reloc_TranslateCore : Spec := sig [.core, .i .u32, .i .u32, .i .i64] [.i .u32, .b] (fun (c, size, a, n, _) => K.trans c size a n) (pre := fun (c, size, a, n, _) => decide (0 ≤ n ∧ n ≤ 1099511627776))
noncomputable def E_reloc_TranslateCore : Env := EB.adds [(190, S_reloc_Translate)]

theorem ok_reloc_TranslateCore : EnvOk E_reloc_TranslateCore := okEB.adds (l := _) ⟨c_reloc_Translate, trivial⟩
theorem t_reloc_TranslateCore (c : PCore) (size : Int) (a : Int) (n : Int) : evF E_reloc_TranslateCore 60 177 (encArgs [.core, .i .u32, .i .u32, .i .i64] (c, size, a, n, ())) = bif (bne (andI IntKind.u32 (List.getD c.csr 0 (0 : Int)) (1 : Int)) (0 : Int)) then (bif (decide (And ((0 : Int) ≤ n) (n ≤ (1099511627776 : Int)))) then (Tree.letv (okO [(AT.i IntKind.u32), AT.b]) (K.reloc (0 : Int) size size a n) fun x0 => (bif x0.snd then (Tree.leaf (SV.tup [(SV.v (Value.int IntKind.u32 x0.fst)), (SV.b true)])) else (Tree.leaf (SV.tup [(SV.v (Value.int IntKind.u32 x0.fst)), (SV.b false)])))) else (Tree.fail)) else (bif (decide (And ((0 : Int) ≤ n) (n ≤ (1099511627776 : Int)))) then (Tree.letv (okO [(AT.i IntKind.u32), AT.b]) (K.reloc (List.getD c.csr 5 (0 : Int)) (List.getD c.csr 6 (0 : Int)) size a n) fun x0 => (bif x0.snd then (Tree.leaf (SV.tup [(SV.v (Value.int IntKind.u32 x0.fst)), (SV.b true)])) else (Tree.leaf (SV.tup [(SV.v (Value.int IntKind.u32 x0.fst)), (SV.b false)])))) else (Tree.fail)) := by kernel_rfl
section
attribute [local irreducible] evF evFL evFLs
theorem a_reloc_TranslateCore (c : PCore) (size : Int) (a : Int) (n : Int) (hpre : 0 ≤ n ∧ n ≤ 1099511627776) (ok_c : okCore c) (ok_size : okI .u32 size) (ok_a : okI .u32 a) (ok_n : okI .i64 n) : (evF E_reloc_TranslateCore 60 177 (encArgs [.core, .i .u32, .i .u32, .i .i64] (c, size, a, n, ()))).ends fun out_ => decO [.i .u32, .b] out_ = some (K.trans c size a n) := by
  rw [t_reloc_TranslateCore, Tree.ends_holds]
  obtain ⟨s0, s1⟩ := ok_c.csr.u32 (i := 0) (by omega)
  simp only [Tree.holds_loop, Tree.holds_fork, Tree.holds_next, if_true, Tree.holds_cond, Tree.holds_letv, Tree.holds_leaf, Tree.holds_fail, decO, decA, decTup, decMach, decCore, decTrap, decInstr, decPart, decGuest, decConf, decEvent, decVcpu, decStep, bytesS, boolS, eventsS, intsS, guestsS, vcpusS, rowS, castL, Option.bind_some, Option.map_some, Option.some.injEq, Nat.beq_refl, beq_self_eq_true, Bool.and_self, cond_true, cond_false, eq_self, beq_iff_eq, beq_eq_false_iff_ne, bne_iff_ne, bne_eq_false_iff_eq, ne_eq, decide_eq_true_eq, decide_eq_false_iff_not, ble_true, ble_false, inRange_iff, inRange_false, and_1 s0 s1]
  have h1 : ¬ c.csr.getD 0 0 % 2 = 0 → K.trans c size a n = K.reloc 0 size size a n := fun h => by unfold K.trans K.super; rw [if_pos (by simp only [beq_iff_eq]; omega)]
  have h2 : c.csr.getD 0 0 % 2 = 0 → K.trans c size a n = K.reloc (c.csr.getD 5 0) (c.csr.getD 6 0) size a n := fun h => by unfold K.trans K.super; rw [if_neg (by rw [h]; decide)]
  repeat' (first | refine drop_ok ?_ | intro _ | with_reducible apply And.intro)
  all_goals first | omega | (rename_i q; rw [← q]; first | rw [h1 (by assumption)] | rw [h2 (by assumption)])
  
theorem c_reloc_TranslateCore : SpecOk EB 177 S_reloc_TranslateCore := spec_sig ok_reloc_TranslateCore (n := 60) fun ⟨c, size, a, n, ⟨⟩⟩ h hok => a_reloc_TranslateCore c size a n (of_decide_eq_true h) (ok_core (okSL_head hok)) (ok_int (okSL_head (okSL_tail hok))) (ok_int (okSL_head (okSL_tail (okSL_tail hok)))) (ok_int (okSL_head (okSL_tail (okSL_tail (okSL_tail hok)))))
end

/-! fetch_Resolve -/

def S_fetch_Resolve : Spec := sig [.mach, .i .u32, .i .i64] [.i .u32, .trap] (fun (m, a, n, _) => K.cell m a n) (pre := fun (m, a, n, _) => decide (n = 1 ∨ n = 4))
noncomputable def E_fetch_Resolve : Env := EB_2.adds [(177, S_reloc_TranslateCore)]

theorem ok_fetch_Resolve : EnvOk E_fetch_Resolve := okEB_2.adds (l := _) ⟨(up_to_2 c_reloc_TranslateCore), trivial⟩
theorem t_fetch_Resolve (m : PMach) (a : Int) (n : Int) : evF E_fetch_Resolve 60 168 (encArgs [.mach, .i .u32, .i .i64] (m, a, n, ())) = bif (bne (IntKind.wrap IntKind.u32 n) (0 : Int)) then (bif (bne (Int.tmod a (IntKind.wrap IntKind.u32 n)) (0 : Int)) then (Tree.leaf (SV.tup [(SV.v (Value.int IntKind.u32 (0 : Int))), (SV.agg [(SV.v (Value.int IntKind.i64 (4 : Int))), (SV.v (Value.int IntKind.u32 a))])])) else (bif (decide (And ((0 : Int) ≤ n) (n ≤ (1099511627776 : Int)))) then (Tree.letv (okO [(AT.i IntKind.u32), AT.b]) (K.trans m.core (IntKind.wrap IntKind.u32 (Int.ofNat (List.length m.mem))) a n) fun x0 => (bif x0.snd then (Tree.leaf (SV.tup [(SV.v (Value.int IntKind.u32 x0.fst)), (SV.agg [(SV.v (Value.int IntKind.i64 (0 : Int))), (SV.v (Value.int IntKind.u32 (0 : Int)))])])) else (Tree.leaf (SV.tup [(SV.v (Value.int IntKind.u32 (0 : Int))), (SV.agg [(SV.v (Value.int IntKind.i64 (3 : Int))), (SV.v (Value.int IntKind.u32 a))])])))) else (Tree.fail))) else (Tree.fail) := by kernel_rfl
section
attribute [local irreducible] evF evFL evFLs
theorem a_fetch_Resolve (m : PMach) (a : Int) (n : Int) (hpre : n = 1 ∨ n = 4) (ok_m : okMach m) (ok_a : okI .u32 a) (ok_n : okI .i64 n) : (evF E_fetch_Resolve 60 168 (encArgs [.mach, .i .u32, .i .i64] (m, a, n, ()))).ends fun out_ => decO [.i .u32, .trap] out_ = some (K.cell m a n) := by
  rw [t_fetch_Resolve, Tree.ends_holds]
  obtain ⟨a0, a1⟩ := okI_u32 ok_a
  have hn : 1 ≤ n ∧ n ≤ 4 := by omega
  have e1 : IntKind.u32.wrap n = n := by rw [wrap32]; omega
  have e2 : Int.tmod a n = a % n := Int.tmod_eq_emod_of_nonneg a0
  have e3 : IntKind.u32.wrap (m.mem.length : Int) = (m.mem.length : Int) % 4294967296 := wrap32 _
  simp only [Tree.holds_loop, Tree.holds_fork, Tree.holds_next, if_true, Tree.holds_cond, Tree.holds_letv, Tree.holds_leaf, Tree.holds_fail, decO, decA, decTup, decMach, decCore, decTrap, decInstr, decPart, decGuest, decConf, decEvent, decVcpu, decStep, bytesS, boolS, eventsS, intsS, guestsS, vcpusS, rowS, castL, Option.bind_some, Option.map_some, Option.some.injEq, Nat.beq_refl, beq_self_eq_true, Bool.and_self, cond_true, cond_false, eq_self, beq_iff_eq, beq_eq_false_iff_ne, bne_iff_ne, bne_eq_false_iff_eq, ne_eq, decide_eq_true_eq, decide_eq_false_iff_not, ble_true, ble_false, inRange_iff, inRange_false, Int.ofNat_eq_natCast, e1, e2, e3, K.cell]
  repeat' (first | refine drop_ok ?_ | intro _ | with_reducible apply And.intro)
  all_goals first | omega | (simp_all; done)
  
theorem c_fetch_Resolve : SpecOk EB_2 168 S_fetch_Resolve := spec_sig ok_fetch_Resolve (n := 60) fun ⟨m, a, n, ⟨⟩⟩ h hok => a_fetch_Resolve m a n (of_decide_eq_true h) (ok_mach (okSL_head hok)) (ok_int (okSL_head (okSL_tail hok))) (ok_int (okSL_head (okSL_tail (okSL_tail hok))))
end

/-! mem_InRange -/

def S_mem_InRange : Spec := sig [.i .i64, .i .u32, .i .i64] [.b] (fun (size, a, n, _) => K.inR size a n) (pre := fun (size, a, n, _) => decide (0 ≤ n ∧ n ≤ 1099511627776 ∧ 0 ≤ size))
noncomputable def E_mem_InRange : Env := EB.adds []

theorem ok_mem_InRange : EnvOk E_mem_InRange := okEB.adds (l := _) trivial
theorem t_mem_InRange (size : Int) (a : Int) (n : Int) : evF E_mem_InRange 60 178 (encArgs [.i .i64, .i .u32, .i .i64] (size, a, n, ())) = bif (decide ((IntKind.wrap IntKind.u64 ((IntKind.wrap IntKind.u64 a) + (IntKind.wrap IntKind.u64 n))) ≤ (IntKind.wrap IntKind.u64 size))) then (Tree.leaf (SV.b true)) else (Tree.leaf (SV.b false)) := by kernel_rfl
section
attribute [local irreducible] evF evFL evFLs
theorem a_mem_InRange (size : Int) (a : Int) (n : Int) (hpre : 0 ≤ n ∧ n ≤ 1099511627776 ∧ 0 ≤ size) (ok_size : okI .i64 size) (ok_a : okI .u32 a) (ok_n : okI .i64 n) : (evF E_mem_InRange 60 178 (encArgs [.i .i64, .i .u32, .i .i64] (size, a, n, ()))).ends fun out_ => decO [.b] out_ = some (K.inR size a n) := by
  rw [t_mem_InRange, Tree.ends_holds]
  obtain ⟨a0, a1⟩ := okI_u32 ok_a
  obtain ⟨s0, s1⟩ := okI_i64 ok_size
  have e1 : IntKind.u64.wrap a = a := by rw [wrap64]; omega
  have e2 : IntKind.u64.wrap n = n := by rw [wrap64]; omega
  have e3 : IntKind.u64.wrap size = size := by rw [wrap64]; omega
  have e4 : IntKind.u64.wrap (a + n) = a + n := by rw [wrap64]; omega
  simp only [Tree.holds_loop, Tree.holds_fork, Tree.holds_next, if_true, Tree.holds_cond, Tree.holds_letv, Tree.holds_leaf, Tree.holds_fail, decO, decA, decTup, decMach, decCore, decTrap, decInstr, decPart, decGuest, decConf, decEvent, decVcpu, decStep, bytesS, boolS, eventsS, intsS, guestsS, vcpusS, rowS, castL, Option.bind_some, Option.map_some, Option.some.injEq, Nat.beq_refl, beq_self_eq_true, Bool.and_self, cond_true, cond_false, eq_self, beq_iff_eq, beq_eq_false_iff_ne, bne_iff_ne, bne_eq_false_iff_eq, ne_eq, decide_eq_true_eq, decide_eq_false_iff_not, ble_true, ble_false, inRange_iff, inRange_false, K.inR, e1, e2, e3, e4]
  repeat' (first | refine drop_ok ?_ | intro _ | with_reducible apply And.intro)
  all_goals simp_all
  
theorem c_mem_InRange : SpecOk EB 178 S_mem_InRange := spec_sig ok_mem_InRange (n := 60) fun ⟨size, a, n, ⟨⟩⟩ h hok => a_mem_InRange size a n (of_decide_eq_true h) (ok_int (okSL_head hok)) (ok_int (okSL_head (okSL_tail hok))) (ok_int (okSL_head (okSL_tail (okSL_tail hok))))
end

/-! mem_Load -/

def S_mem_Load : Spec := sig [.rd .u8, .i .u32, .i .i64] [.i .u32, .b] (fun (m, a, n, _) => if K.inR m.length a n = true then (K.ld m a n, true) else (0, false)) (pre := fun (m, a, n, _) => decide (n = 1 ∨ n = 4))
noncomputable def E_mem_Load : Env := EB.adds [(178, S_mem_InRange)]

theorem ok_mem_Load : EnvOk E_mem_Load := okEB.adds (l := _) ⟨c_mem_InRange, trivial⟩
theorem t1_c_mem_Load (m : List Int) (a : Int) : evF E_mem_Load 60 169 [.rd .u8 m, .v (.int .u32 a), .v (.int .i64 1)] = 
  bif (decide (And ((0 : Int) ≤ (1 : Int)) (And ((1 : Int) ≤ (1099511627776 : Int)) ((0 : Int) ≤ (Int.ofNat (List.length m)))))) then
    (Tree.letv (okO [AT.b]) (K.inR (Int.ofNat (List.length m)) a (1 : Int)) fun x0 =>
    (bif x0 then
      (bif (inRange (IntKind.wrap IntKind.i64 ((IntKind.wrap IntKind.i64 a) + (0 : Int))) (List.length m)) then
        (Tree.leaf (SV.tup [(SV.v (Value.int IntKind.u32 (orI IntKind.u32 (0 : Int) (IntKind.wrap IntKind.u32 ((IntKind.wrap IntKind.u32 (List.getD m (Int.toNat (IntKind.wrap IntKind.i64 ((IntKind.wrap IntKind.i64 a) + (0 : Int)))) (0 : Int))) * (1 : Int)))))), (SV.b true)]))
      else
        (Tree.fail))
    else
      (Tree.leaf (SV.tup [(SV.v (Value.int IntKind.u32 (0 : Int))), (SV.b false)]))))
  else
    (Tree.fail) := by kernel_rfl
theorem t4_c_mem_Load (m : List Int) (a : Int) : evF E_mem_Load 60 169 [.rd .u8 m, .v (.int .u32 a), .v (.int .i64 4)] = 
  bif (decide (And ((0 : Int) ≤ (4 : Int)) (And ((4 : Int) ≤ (1099511627776 : Int)) ((0 : Int) ≤ (Int.ofNat (List.length m)))))) then
    (Tree.letv (okO [AT.b]) (K.inR (Int.ofNat (List.length m)) a (4 : Int)) fun x0 =>
    (bif x0 then
      (bif (inRange (IntKind.wrap IntKind.i64 ((IntKind.wrap IntKind.i64 a) + (0 : Int))) (List.length m)) then
        (bif (inRange (IntKind.wrap IntKind.i64 ((IntKind.wrap IntKind.i64 a) + (1 : Int))) (List.length m)) then
          (bif (inRange (IntKind.wrap IntKind.i64 ((IntKind.wrap IntKind.i64 a) + (2 : Int))) (List.length m)) then
            (bif (inRange (IntKind.wrap IntKind.i64 ((IntKind.wrap IntKind.i64 a) + (3 : Int))) (List.length m)) then
              (Tree.leaf (SV.tup [(SV.v (Value.int IntKind.u32 (orI IntKind.u32 (orI IntKind.u32 (orI IntKind.u32 (orI IntKind.u32 (0 : Int) (IntKind.wrap IntKind.u32 ((IntKind.wrap IntKind.u32 (List.getD m (Int.toNat (IntKind.wrap IntKind.i64 ((IntKind.wrap IntKind.i64 a) + (0 : Int)))) (0 : Int))) * (1 : Int)))) (IntKind.wrap IntKind.u32 ((IntKind.wrap IntKind.u32 (List.getD m (Int.toNat (IntKind.wrap IntKind.i64 ((IntKind.wrap IntKind.i64 a) + (1 : Int)))) (0 : Int))) * (256 : Int)))) (IntKind.wrap IntKind.u32 ((IntKind.wrap IntKind.u32 (List.getD m (Int.toNat (IntKind.wrap IntKind.i64 ((IntKind.wrap IntKind.i64 a) + (2 : Int)))) (0 : Int))) * (65536 : Int)))) (IntKind.wrap IntKind.u32 ((IntKind.wrap IntKind.u32 (List.getD m (Int.toNat (IntKind.wrap IntKind.i64 ((IntKind.wrap IntKind.i64 a) + (3 : Int)))) (0 : Int))) * (16777216 : Int)))))), (SV.b true)]))
            else
              (Tree.fail))
          else
            (Tree.fail))
        else
          (Tree.fail))
      else
        (Tree.fail))
    else
      (Tree.leaf (SV.tup [(SV.v (Value.int IntKind.u32 (0 : Int))), (SV.b false)]))))
  else
    (Tree.fail) := by kernel_rfl
theorem a1_c_mem_Load (m : List Int) (a : Int) (ok_m : okBytes m) (ok_a : okI .u32 a) : (evF E_mem_Load 60 169 [.rd .u8 m, .v (.int .u32 a), .v (.int .i64 1)]).ends fun out_ => decO [.i .u32, .b] out_ = some (if K.inR m.length a 1 = true then (K.ld m a 1, true) else (0, false)) := by
  rw [t1_c_mem_Load, Tree.ends_holds]
  obtain ⟨a0, a1⟩ := okI_u32 ok_a
  have b0 := byte_at ok_m a.toNat
  have i0 : IntKind.i64.wrap (IntKind.i64.wrap a + 0) = a := by rw [wrapI64 (by rw [wrapI64 (by omega) (by omega)]; omega) (by rw [wrapI64 (by omega) (by omega)]; omega), wrapI64 (by omega) (by omega)]; omega
  have v0 : IntKind.u32.wrap (IntKind.u32.wrap (m.getD a.toNat 0) * 1) = m.getD a.toNat 0 := by rw [wrap32, wrap32]; omega
  simp only [Tree.holds_loop, Tree.holds_fork, Tree.holds_next, if_true, Tree.holds_cond, Tree.holds_letv, Tree.holds_leaf, Tree.holds_fail, decO, decA, decTup, decMach, decCore, decTrap, decInstr, decPart, decGuest, decConf, decEvent, decVcpu, decStep, bytesS, boolS, eventsS, intsS, guestsS, vcpusS, rowS, castL, Option.bind_some, Option.map_some, Option.some.injEq, Nat.beq_refl, beq_self_eq_true, Bool.and_self, cond_true, cond_false, eq_self, beq_iff_eq, beq_eq_false_iff_ne, bne_iff_ne, bne_eq_false_iff_eq, ne_eq, decide_eq_true_eq, decide_eq_false_iff_not, ble_true, ble_false, inRange_iff, inRange_false, Int.ofNat_eq_natCast, i0, v0, or_zero b0.1 b0.2]
  repeat' (first | refine drop_ok ?_ | intro _ | with_reducible apply And.intro)
  all_goals first | (rw [if_pos (by assumption)]; rfl) | (rw [if_neg (by simp_all)]) | omega | (simp_all [K.inR]; omega)
theorem a4_c_mem_Load (m : List Int) (a : Int) (ok_m : okBytes m) (ok_a : okI .u32 a) : (evF E_mem_Load 60 169 [.rd .u8 m, .v (.int .u32 a), .v (.int .i64 4)]).ends fun out_ => decO [.i .u32, .b] out_ = some (if K.inR m.length a 4 = true then (K.ld m a 4, true) else (0, false)) := by
  rw [t4_c_mem_Load, Tree.ends_holds]
  obtain ⟨a0, a1⟩ := okI_u32 ok_a
  have ew : IntKind.i64.wrap a = a := wrapI64 (by omega) (by omega)
  have i0 : IntKind.i64.wrap (a + 0) = a := by rw [wrapI64 (by omega) (by omega)]; omega
  have i1 : IntKind.i64.wrap (a + 1) = a + 1 := wrapI64 (by omega) (by omega)
  have i2 : IntKind.i64.wrap (a + 2) = a + 2 := wrapI64 (by omega) (by omega)
  have i3 : IntKind.i64.wrap (a + 3) = a + 3 := wrapI64 (by omega) (by omega)
  have n1 : (a + 1).toNat = a.toNat + 1 := by omega
  have n2 : (a + 2).toNat = a.toNat + 2 := by omega
  have n3 : (a + 3).toNat = a.toNat + 3 := by omega
  obtain ⟨p0, q0⟩ := byte_at ok_m a.toNat
  obtain ⟨p1, q1⟩ := byte_at ok_m (a.toNat + 1)
  obtain ⟨p2, q2⟩ := byte_at ok_m (a.toNat + 2)
  obtain ⟨p3, q3⟩ := byte_at ok_m (a.toNat + 3)
  simp only [Tree.holds_loop, Tree.holds_fork, Tree.holds_next, if_true, Tree.holds_cond, Tree.holds_letv, Tree.holds_leaf, Tree.holds_fail, decO, decA, decTup, decMach, decCore, decTrap, decInstr, decPart, decGuest, decConf, decEvent, decVcpu, decStep, bytesS, boolS, eventsS, intsS, guestsS, vcpusS, rowS, castL, Option.bind_some, Option.map_some, Option.some.injEq, Nat.beq_refl, beq_self_eq_true, Bool.and_self, cond_true, cond_false, eq_self, beq_iff_eq, beq_eq_false_iff_ne, bne_iff_ne, bne_eq_false_iff_eq, ne_eq, decide_eq_true_eq, decide_eq_false_iff_not, ble_true, ble_false, inRange_iff, inRange_false, Int.ofNat_eq_natCast, ew, i0, i1, i2, i3, n1, n2, n3, wrap32, ld4 p0 q0 p1 q1 p2 q2 p3 q3]
  repeat' (first | refine drop_ok ?_ | intro _ | with_reducible apply And.intro)
  all_goals first | (rw [if_pos (by assumption)]; rfl) | (rw [if_neg (by simp_all)]) | omega | (simp_all [K.inR]; omega)
theorem c_mem_Load : SpecOk EB 169 S_mem_Load := spec_sig ok_mem_Load (n := 60) fun ⟨m, a, n, ⟨⟩⟩ h hok => by
  have h := of_decide_eq_true h
  have o1 := ok_bytes (okSL_head hok)
  have o2 := ok_int (okSL_head (okSL_tail hok))
  rcases h with h | h
  · have h : n = 1 := h
    subst h; exact a1_c_mem_Load m a o1 o2
  · have h : n = 4 := h
    subst h; exact a4_c_mem_Load m a o1 o2

/-! fetch_Load -/

def S_fetch_Load : Spec := sig [.mach, .i .u32, .i .i64] [.i .u32, .trap] (fun (m, a, n, _) => K.load m a n) (pre := fun (m, a, n, _) => decide (n = 1 ∨ n = 4))
noncomputable def E_fetch_Load : Env := EB_2.adds [(168, S_fetch_Resolve), (169, S_mem_Load)]

theorem ok_fetch_Load : EnvOk E_fetch_Load := okEB_2.adds (l := _) ⟨c_fetch_Resolve, (up_to_2 c_mem_Load), trivial⟩
theorem t_fetch_Load (m : PMach) (a : Int) (n : Int) : evF E_fetch_Load 60 153 (encArgs [.mach, .i .u32, .i .i64] (m, a, n, ())) = bif (decide (Or (n = (1 : Int)) (n = (4 : Int)))) then (Tree.letv (okO [(AT.i IntKind.u32), AT.trap]) (K.cell m a n) fun x0 => (bif (Bool.not (Bool.and (BEq.beq x0.snd.cause (0 : Int)) (Bool.and (BEq.beq x0.snd.tval (0 : Int)) true))) then (Tree.leaf (SV.tup [(SV.v (Value.int IntKind.u32 (0 : Int))), (SV.agg [(SV.v (Value.int IntKind.i64 x0.snd.cause)), (SV.v (Value.int IntKind.u32 x0.snd.tval))])])) else (bif (decide (Or (n = (1 : Int)) (n = (4 : Int)))) then (Tree.letv (okO [(AT.i IntKind.u32), AT.b]) (if ((K.inR (Int.ofNat (List.length m.mem)) x0.fst n) = true) then ((K.ld m.mem x0.fst n), true) else ((0 : Int), false)) fun x1 => (bif x1.snd then (Tree.leaf (SV.tup [(SV.v (Value.int IntKind.u32 x1.fst)), (SV.agg [(SV.v (Value.int IntKind.i64 (0 : Int))), (SV.v (Value.int IntKind.u32 (0 : Int)))])])) else (Tree.leaf (SV.tup [(SV.v (Value.int IntKind.u32 x1.fst)), (SV.agg [(SV.v (Value.int IntKind.i64 (0 : Int))), (SV.v (Value.int IntKind.u32 (0 : Int)))])])))) else (Tree.fail)))) else (Tree.fail) := by kernel_rfl
section
attribute [local irreducible] evF evFL evFLs
theorem a_fetch_Load (m : PMach) (a : Int) (n : Int) (hpre : n = 1 ∨ n = 4) (ok_m : okMach m) (ok_a : okI .u32 a) (ok_n : okI .i64 n) : (evF E_fetch_Load 60 153 (encArgs [.mach, .i .u32, .i .i64] (m, a, n, ()))).ends fun out_ => decO [.i .u32, .trap] out_ = some (K.load m a n) := by
  rw [t_fetch_Load, Tree.ends_holds]
  obtain ⟨a0, a1⟩ := okI_u32 ok_a
  have hr := fun h => cell_range ok_m.core (a := a) (n := n) a0 (by omega) h
  simp only [Tree.holds_loop, Tree.holds_fork, Tree.holds_next, if_true, Tree.holds_cond, Tree.holds_letv, Tree.holds_leaf, Tree.holds_fail, decO, decA, decTup, decMach, decCore, decTrap, decInstr, decPart, decGuest, decConf, decEvent, decVcpu, decStep, bytesS, boolS, eventsS, intsS, guestsS, vcpusS, rowS, castL, Option.bind_some, Option.map_some, Option.some.injEq, Nat.beq_refl, beq_self_eq_true, Bool.and_self, cond_true, cond_false, eq_self, beq_iff_eq, beq_eq_false_iff_ne, bne_iff_ne, bne_eq_false_iff_eq, ne_eq, decide_eq_true_eq, decide_eq_false_iff_not, ble_true, ble_false, inRange_iff, inRange_false, Int.ofNat_eq_natCast, K.load]
  by_cases h : (K.cell m a n).2.cause = 0
  · have ht := cell_zero h
    have hi : K.inR m.mem.length (K.cell m a n).1 n = true := by have := hr h; simp only [K.inR, decide_eq_true_eq]; omega
    simp only [h, ht, hi, if_true]
    simp [hpre]
  · simp [h, hpre]
  
theorem c_fetch_Load : SpecOk EB_2 153 S_fetch_Load := spec_sig ok_fetch_Load (n := 60) fun ⟨m, a, n, ⟨⟩⟩ h hok => a_fetch_Load m a n (of_decide_eq_true h) (ok_mach (okSL_head hok)) (ok_int (okSL_head (okSL_tail hok))) (ok_int (okSL_head (okSL_tail (okSL_tail hok))))
end

/-! fetch_Fetch -/

def S_fetch_Fetch : Spec := sig [.mach] [.i .u32, .trap] (fun (m, _) => K.load m m.core.pc 4)
noncomputable def E_fetch_Fetch : Env := EB_2.adds [(153, S_fetch_Load)]

theorem ok_fetch_Fetch : EnvOk E_fetch_Fetch := okEB_2.adds (l := _) ⟨c_fetch_Load, trivial⟩
theorem t_fetch_Fetch (m : PMach) : evF E_fetch_Fetch 60 132 (encArgs [.mach] (m, ())) = Tree.letv (okO [(AT.i IntKind.u32), AT.trap]) (K.load m m.core.pc (4 : Int)) fun x0 => (Tree.leaf (SV.tup [(SV.v (Value.int IntKind.u32 x0.fst)), (SV.agg [(SV.v (Value.int IntKind.i64 x0.snd.cause)), (SV.v (Value.int IntKind.u32 x0.snd.tval))])])) := by kernel_rfl
section
attribute [local irreducible] evF evFL evFLs
theorem a_fetch_Fetch (m : PMach) (ok_m : okMach m) : (evF E_fetch_Fetch 60 132 (encArgs [.mach] (m, ()))).ends fun out_ => decO [.i .u32, .trap] out_ = some (K.load m m.core.pc 4) := by
  rw [t_fetch_Fetch, Tree.ends_holds]
  simp only [Tree.holds_loop, Tree.holds_fork, Tree.holds_next, if_true, Tree.holds_cond, Tree.holds_letv, Tree.holds_leaf, Tree.holds_fail, decO, decA, decTup, decMach, decCore, decTrap, decInstr, decPart, decGuest, decConf, decEvent, decVcpu, decStep, bytesS, boolS, eventsS, intsS, guestsS, vcpusS, rowS, castL, Option.bind_some, Option.map_some, Option.some.injEq, Nat.beq_refl, beq_self_eq_true, Bool.and_self, cond_true, cond_false, eq_self, beq_iff_eq, beq_eq_false_iff_ne, bne_iff_ne, bne_eq_false_iff_eq, ne_eq, decide_eq_true_eq, decide_eq_false_iff_not, ble_true, ble_false, inRange_iff, inRange_false]
  repeat' (first | refine drop_ok ?_ | intro _ | with_reducible apply And.intro)
  all_goals first | trivial | omega | (simp_all; done)
  
theorem c_fetch_Fetch : SpecOk EB_2 132 S_fetch_Fetch := spec_sig ok_fetch_Fetch (n := 60) fun ⟨m, ⟨⟩⟩ h hok => a_fetch_Fetch m (ok_mach (okSL_head hok))
end

/-! bits_low64 -/

def S_bits_low64 : Spec := sig [.i .u64, .i .i64] [.i .u64] (fun (w, n, _) => w % K.pow n) (pre := fun (w, n, _) => decide (0 ≤ n ∧ n ≤ 63))
noncomputable def E_bits_low64 : Env := EB.adds []

theorem ok_bits_low64 : EnvOk E_bits_low64 := okEB.adds (l := _) trivial
theorem t_bits_low64 (w : Int) (n : Int) : evF E_bits_low64 60 170 (encArgs [.i .u64, .i .i64] (w, n, ())) = bif (decide ((0 : Int) ≤ (IntKind.wrap IntKind.u64 n))) then (Tree.leaf (SV.v (Value.int IntKind.u64 (andI IntKind.u64 w (IntKind.wrap IntKind.u64 ((IntKind.wrap IntKind.u64 ((1 : Int) * ((2 : Int) ^ (if ((Int.toNat (IntKind.wrap IntKind.u64 n)) ≤ 64) then (Int.toNat (IntKind.wrap IntKind.u64 n)) else 64)))) - (1 : Int))))))) else (Tree.fail) := by kernel_rfl
section
attribute [local irreducible] evF evFL evFLs
theorem a_bits_low64 (w : Int) (n : Int) (hpre : 0 ≤ n ∧ n ≤ 63) (ok_w : okI .u64 w) (ok_n : okI .i64 n) : (evF E_bits_low64 60 170 (encArgs [.i .u64, .i .i64] (w, n, ()))).ends fun out_ => decO [.i .u64] out_ = some (w % K.pow n) := by
  rw [t_bits_low64, Tree.ends_holds]
  obtain ⟨w0, w1⟩ := okI_u64 ok_w
  obtain ⟨n, rfl⟩ := Int.eq_ofNat_of_zero_le hpre.1
  have h63 := pow63 (j := n) (by omega)
  have hp := Nat.two_pow_pos n
  have e1 : IntKind.u64.wrap (n : Int) = (n : Int) := by rw [wrap64]; omega
  have e2 : (if n ≤ 64 then n else 64) = n := if_pos (by omega)
  have e3 : andI .u64 w (IntKind.u64.wrap (IntKind.u64.wrap (1 * 2 ^ (if n ≤ 64 then n else 64)) - 1)) = w % K.pow (n : Int) := by
    have : IntKind.u64.wrap (IntKind.u64.wrap (1 * 2 ^ (if n ≤ 64 then n else 64)) - 1) = ((2 ^ n - 1 : Nat) : Int) := by
      rw [e2, wrap64, wrap64, show (1 : Int) * 2 ^ n = ((2 ^ n : Nat) : Int) by simp]; omega
    rw [this, and_low64 n (by omega) w0 w1]; rfl
  simp only [Tree.holds_loop, Tree.holds_fork, Tree.holds_next, if_true, Tree.holds_cond, Tree.holds_letv, Tree.holds_leaf, Tree.holds_fail, decO, decA, decTup, decMach, decCore, decTrap, decInstr, decPart, decGuest, decConf, decEvent, decVcpu, decStep, bytesS, boolS, eventsS, intsS, guestsS, vcpusS, rowS, castL, Option.bind_some, Option.map_some, Option.some.injEq, Nat.beq_refl, beq_self_eq_true, Bool.and_self, cond_true, cond_false, eq_self, e1, Int.toNat_natCast, e3]
  simp
  
theorem c_bits_low64 : SpecOk EB 170 S_bits_low64 := spec_sig ok_bits_low64 (n := 60) fun ⟨w, n, ⟨⟩⟩ h hok => a_bits_low64 w n (of_decide_eq_true h) (ok_int (okSL_head hok)) (ok_int (okSL_head (okSL_tail hok)))
end

/-! bits_Extract -/

def S_bits_Extract : Spec := sig [.i .u32, .i .i64, .i .i64] [.i .u32] (fun (w, at_, n, _) => K.field w at_ n) (pre := fun (w, at_, n, _) => decide (0 ≤ at_ ∧ at_ ≤ 63 ∧ 0 ≤ n ∧ n ≤ 63))
noncomputable def E_bits_Extract : Env := EB.adds [(170, S_bits_low64)]

theorem ok_bits_Extract : EnvOk E_bits_Extract := okEB.adds (l := _) ⟨c_bits_low64, trivial⟩
theorem t_bits_Extract (w : Int) (at_ : Int) (n : Int) : evF E_bits_Extract 60 154 (encArgs [.i .u32, .i .i64, .i .i64] (w, at_, n, ())) = bif (decide ((0 : Int) ≤ (IntKind.wrap IntKind.u64 at_))) then (bif (decide (And ((0 : Int) ≤ n) (n ≤ (63 : Int)))) then (Tree.letv (okO [(AT.i IntKind.u64)]) ((Int.fdiv (IntKind.wrap IntKind.u64 w) ((2 : Int) ^ (if ((Int.toNat (IntKind.wrap IntKind.u64 at_)) ≤ 64) then (Int.toNat (IntKind.wrap IntKind.u64 at_)) else 64))) % (K.pow n)) fun x0 => (Tree.leaf (SV.v (Value.int IntKind.u32 (IntKind.wrap IntKind.u32 x0))))) else (Tree.fail)) else (Tree.fail) := by kernel_rfl
section
attribute [local irreducible] evF evFL evFLs
theorem a_bits_Extract (w : Int) (at_ : Int) (n : Int) (hpre : 0 ≤ at_ ∧ at_ ≤ 63 ∧ 0 ≤ n ∧ n ≤ 63) (ok_w : okI .u32 w) (ok_at_ : okI .i64 at_) (ok_n : okI .i64 n) : (evF E_bits_Extract 60 154 (encArgs [.i .u32, .i .i64, .i .i64] (w, at_, n, ()))).ends fun out_ => decO [.i .u32] out_ = some (K.field w at_ n) := by
  rw [t_bits_Extract, Tree.ends_holds]
  obtain ⟨w0, w1⟩ := okI_u32 ok_w
  obtain ⟨at_, rfl⟩ := Int.eq_ofNat_of_zero_le hpre.1
  have p1 := K.pow_pos (at_ : Int)
  have p2 := K.pow_pos n
  have q1 : w / K.pow at_ ≤ w := Int.ediv_le_self _ w0
  have q0 : 0 ≤ w / K.pow at_ := Int.ediv_nonneg w0 (by omega)
  have q2 := Int.emod_nonneg (w / K.pow at_) (show K.pow n ≠ 0 by omega)
  have q3 : w / K.pow at_ % K.pow n ≤ w / K.pow at_ := emod_le q0 p2
  have e0 : IntKind.u64.wrap (at_ : Int) = (at_ : Int) := by rw [wrap64]; omega
  have e1 : IntKind.u64.wrap w = w := by rw [wrap64]; omega
  have e2 : Int.fdiv w (2 ^ (if at_ ≤ 64 then at_ else 64)) = w / K.pow at_ := by
    rw [if_pos (by omega), Int.fdiv_eq_ediv_of_nonneg _ (by exact Int.le_of_lt (Int.pow_pos (by omega)))]
    congr 1 <;> simp [K.pow]
  have e5 : IntKind.u32.wrap (w / K.pow at_ % K.pow n) = w / K.pow at_ % K.pow n := by rw [wrap32]; omega
  have e6 : decide (0 ≤ n ∧ n ≤ 63) = true := decide_eq_true ⟨hpre.2.2.1, hpre.2.2.2⟩
  simp only [Tree.holds_loop, Tree.holds_fork, Tree.holds_next, if_true, Tree.holds_cond, Tree.holds_letv, Tree.holds_leaf, Tree.holds_fail, decO, decA, decTup, decMach, decCore, decTrap, decInstr, decPart, decGuest, decConf, decEvent, decVcpu, decStep, bytesS, boolS, eventsS, intsS, guestsS, vcpusS, rowS, castL, Option.bind_some, Option.map_some, Option.some.injEq, Nat.beq_refl, beq_self_eq_true, Bool.and_self, cond_true, cond_false, eq_self, e0, e1, Int.toNat_natCast, e2, e5, e6, K.field]
  first | done | simp
  
theorem c_bits_Extract : SpecOk EB 154 S_bits_Extract := spec_sig ok_bits_Extract (n := 60) fun ⟨w, at_, n, ⟨⟩⟩ h hok => a_bits_Extract w at_ n (of_decide_eq_true h) (ok_int (okSL_head hok)) (ok_int (okSL_head (okSL_tail hok))) (ok_int (okSL_head (okSL_tail (okSL_tail hok))))
end

/-! isa_FormatOf -/

def S_isa_FormatOf : Spec := sig [.i .i64] [.i .i64] (fun (op, _) => K.form op)
noncomputable def E_isa_FormatOf : Env := EB_1.adds []

theorem ok_isa_FormatOf : EnvOk E_isa_FormatOf := okEB_1.adds (l := _) trivial
theorem t_isa_FormatOf (op : Int) : evF E_isa_FormatOf 60 149 (encArgs [.i .i64] (op, ())) = bif (decide (op < (0 : Int))) then (Tree.leaf (SV.v (Value.int IntKind.i64 (0 : Int)))) else (bif (decide (op ≥ (26 : Int))) then (Tree.leaf (SV.v (Value.int IntKind.i64 (0 : Int)))) else (bif (inRange op 26) then (Tree.leaf (SV.v (Value.int IntKind.i64 (List.getD [(0 : Int), (1 : Int), (1 : Int), (1 : Int), (1 : Int), (1 : Int), (1 : Int), (1 : Int), (1 : Int), (2 : Int), (3 : Int), (2 : Int), (2 : Int), (2 : Int), (2 : Int), (2 : Int), (2 : Int), (2 : Int), (3 : Int), (2 : Int), (4 : Int), (5 : Int), (6 : Int), (4 : Int), (4 : Int), (7 : Int)] ((Int.toNat op)) (0 : Int))))) else (Tree.fail))) := by kernel_rfl
section
attribute [local irreducible] evF evFL evFLs
theorem a_isa_FormatOf (op : Int) (ok_op : okI .i64 op) : (evF E_isa_FormatOf 60 149 (encArgs [.i .i64] (op, ()))).ends fun out_ => decO [.i .i64] out_ = some (K.form op) := by
  rw [t_isa_FormatOf, Tree.ends_holds]
  simp only [Tree.holds_loop, Tree.holds_fork, Tree.holds_next, if_true, Tree.holds_cond, Tree.holds_letv, Tree.holds_leaf, Tree.holds_fail, decO, decA, decTup, decMach, decCore, decTrap, decInstr, decPart, decGuest, decConf, decEvent, decVcpu, decStep, bytesS, boolS, eventsS, intsS, guestsS, vcpusS, rowS, castL, Option.bind_some, Option.map_some, Option.some.injEq, Nat.beq_refl, beq_self_eq_true, Bool.and_self, cond_true, cond_false, eq_self, beq_iff_eq, beq_eq_false_iff_ne, bne_iff_ne, bne_eq_false_iff_eq, ne_eq, decide_eq_true_eq, decide_eq_false_iff_not, ble_true, ble_false, inRange_iff, inRange_false]
  have out : (op < 0 ∨ 26 ≤ op) → K.form op = 0 := fun h => by unfold K.form; (repeat' split) <;> first | rfl | omega
  have inn : 0 ≤ op → op < 26 → [0, 1, 1, 1, 1, 1, 1, 1, 1, 2, 3, 2, 2, 2, 2, 2, 2, 2, 3, 2, 4, 5, 6, 4, 4, 7].getD op.toNat (0 : Int) = K.form op := fun h0 h1 => by
    rcases op_cases op with ⟨m, rfl⟩ | ⟨m, rfl⟩ | rfl | rfl | rfl | rfl | rfl | rfl | rfl | rfl | rfl | rfl | rfl | rfl | rfl | rfl | rfl | rfl | rfl | rfl | rfl | rfl | rfl | rfl | rfl | rfl | rfl | rfl 
    · exact absurd h0 (by simp)
    · exact absurd h1 (by simp; omega)
    all_goals rfl
  repeat' (first | refine drop_ok ?_ | intro _ | with_reducible apply And.intro)
  all_goals first | (rw [out (by omega)]; done) | (rw [inn (by omega) (by omega)]; done) | omega
  
theorem c_isa_FormatOf : SpecOk EB_1 149 S_isa_FormatOf := spec_sig ok_isa_FormatOf (n := 60) fun ⟨op, ⟨⟩⟩ h hok => a_isa_FormatOf op (ok_int (okSL_head hok))
end

/-! bits_SignExtend -/

def S_bits_SignExtend : Spec := sig [.i .u32, .i .i64] [.i .i32] (fun (v, n, _) => K.sext v) (pre := fun (v, n, _) => decide (n = 18))
noncomputable def E_bits_SignExtend : Env := EB.adds []

theorem ok_bits_SignExtend : EnvOk E_bits_SignExtend := okEB.adds (l := _) trivial
theorem t_bits_SignExtend (v : Int) (n : Int) : evF E_bits_SignExtend 60 155 (encArgs [.i .u32, .i .i64] (v, n, ())) = bif (decide ((0 : Int) ≤ (IntKind.wrap IntKind.u64 (IntKind.wrap IntKind.i64 ((32 : Int) - n))))) then (bif (decide ((0 : Int) ≤ (IntKind.wrap IntKind.u64 (IntKind.wrap IntKind.i64 ((32 : Int) - n))))) then (Tree.leaf (SV.v (Value.int IntKind.i32 (Int.fdiv (IntKind.wrap IntKind.i32 (IntKind.wrap IntKind.u32 (v * ((2 : Int) ^ (if ((Int.toNat (IntKind.wrap IntKind.u64 (IntKind.wrap IntKind.i64 ((32 : Int) - n)))) ≤ 32) then (Int.toNat (IntKind.wrap IntKind.u64 (IntKind.wrap IntKind.i64 ((32 : Int) - n)))) else 32))))) ((2 : Int) ^ (if ((Int.toNat (IntKind.wrap IntKind.u64 (IntKind.wrap IntKind.i64 ((32 : Int) - n)))) ≤ 32) then (Int.toNat (IntKind.wrap IntKind.u64 (IntKind.wrap IntKind.i64 ((32 : Int) - n)))) else 32)))))) else (Tree.fail)) else (Tree.fail) := by kernel_rfl
section
attribute [local irreducible] evF evFL evFLs
theorem a_bits_SignExtend (v : Int) (n : Int) (hpre : n = 18) (ok_v : okI .u32 v) (ok_n : okI .i64 n) : (evF E_bits_SignExtend 60 155 (encArgs [.i .u32, .i .i64] (v, n, ()))).ends fun out_ => decO [.i .i32] out_ = some (K.sext v) := by
  rw [t_bits_SignExtend, Tree.ends_holds]
  obtain ⟨v0, v1⟩ := okI_u32 ok_v
  subst hpre
  have e0 : IntKind.u64.wrap (IntKind.i64.wrap (32 - 18)) = 14 := by decide
  have e1 : (if (14 : Int).toNat ≤ 32 then (14 : Int).toNat else 32) = 14 := rfl
  have e2 : (IntKind.i32.wrap (IntKind.u32.wrap (v * 2 ^ 14))).fdiv (2 ^ 14) = K.sext v := by
    rw [Int.fdiv_eq_ediv_of_nonneg _ (by decide), wrap32]
    simp only [IntKind.wrap, IntKind.bits, IntKind.signed, Bool.true_and, decide_eq_true_eq, Nat.reduceSub, Int.reducePow, ge_iff_le]
    unfold K.sext
    (repeat' split) <;> omega
  simp only [Tree.holds_loop, Tree.holds_fork, Tree.holds_next, if_true, Tree.holds_cond, Tree.holds_letv, Tree.holds_leaf, Tree.holds_fail, decO, decA, decTup, decMach, decCore, decTrap, decInstr, decPart, decGuest, decConf, decEvent, decVcpu, decStep, bytesS, boolS, eventsS, intsS, guestsS, vcpusS, rowS, castL, Option.bind_some, Option.map_some, Option.some.injEq, Nat.beq_refl, beq_self_eq_true, Bool.and_self, cond_true, cond_false, eq_self, e0, e1, e2]
  decide
  
theorem c_bits_SignExtend : SpecOk EB 155 S_bits_SignExtend := spec_sig ok_bits_SignExtend (n := 60) fun ⟨v, n, ⟨⟩⟩ h hok => a_bits_SignExtend v n (of_decide_eq_true h) (ok_int (okSL_head hok)) (ok_int (okSL_head (okSL_tail hok)))
end

/-! bits_FitsSigned -/

def S_bits_FitsSigned : Spec := sig [.i .i32, .i .i64] [.b] (fun (v, n, _) => decide (-131072 ≤ v) && decide (v < 131072)) (pre := fun (v, n, _) => decide (n = 18))
noncomputable def E_bits_FitsSigned : Env := EB.adds [(155, S_bits_SignExtend)]

theorem ok_bits_FitsSigned : EnvOk E_bits_FitsSigned := okEB.adds (l := _) ⟨c_bits_SignExtend, trivial⟩
theorem t_bits_FitsSigned (v : Int) (n : Int) : evF E_bits_FitsSigned 60 179 (encArgs [.i .i32, .i .i64] (v, n, ())) = bif (decide (n = (18 : Int))) then (Tree.letv (okO [(AT.i IntKind.i32)]) (K.sext (IntKind.wrap IntKind.u32 v)) fun x0 => (bif (BEq.beq x0 v) then (Tree.leaf (SV.b true)) else (Tree.leaf (SV.b false)))) else (Tree.fail) := by kernel_rfl
section
attribute [local irreducible] evF evFL evFLs
theorem a_bits_FitsSigned (v : Int) (n : Int) (hpre : n = 18) (ok_v : okI .i32 v) (ok_n : okI .i64 n) : (evF E_bits_FitsSigned 60 179 (encArgs [.i .i32, .i .i64] (v, n, ()))).ends fun out_ => decO [.b] out_ = some (decide (-131072 ≤ v) && decide (v < 131072)) := by
  rw [t_bits_FitsSigned, Tree.ends_holds]
  obtain ⟨v0, v1⟩ := okI_i32 ok_v
  subst hpre
  simp only [Tree.holds_loop, Tree.holds_fork, Tree.holds_next, if_true, Tree.holds_cond, Tree.holds_letv, Tree.holds_leaf, Tree.holds_fail, decO, decA, decTup, decMach, decCore, decTrap, decInstr, decPart, decGuest, decConf, decEvent, decVcpu, decStep, bytesS, boolS, eventsS, intsS, guestsS, vcpusS, rowS, castL, Option.bind_some, Option.map_some, Option.some.injEq, Nat.beq_refl, beq_self_eq_true, Bool.and_self, cond_true, cond_false, eq_self, beq_iff_eq, beq_eq_false_iff_ne, bne_iff_ne, bne_eq_false_iff_eq, ne_eq, decide_eq_true_eq, decide_eq_false_iff_not, ble_true, ble_false, inRange_iff, inRange_false]
  have key : (K.sext (IntKind.u32.wrap v) = v) ↔ (-131072 ≤ v ∧ v < 131072) := by
    rw [wrap32]; unfold K.sext; split <;> omega
  simp only [key]
  repeat' (first | refine drop_ok ?_ | intro _ | with_reducible apply And.intro)
  all_goals simp_all
  
theorem c_bits_FitsSigned : SpecOk EB 179 S_bits_FitsSigned := spec_sig ok_bits_FitsSigned (n := 60) fun ⟨v, n, ⟨⟩⟩ h hok => a_bits_FitsSigned v n (of_decide_eq_true h) (ok_int (okSL_head hok)) (ok_int (okSL_head (okSL_tail hok)))
end

/-! isa_register -/

def S_isa_register : Spec := sig [.i .i64, .b] [.b] (fun (n, has, _) => K.regOk n has)
noncomputable def E_isa_register : Env := EB.adds []

theorem ok_isa_register : EnvOk E_isa_register := okEB.adds (l := _) trivial
theorem t_isa_register (n : Int) (has : Bool) : evF E_isa_register 60 180 (encArgs [.i .i64, .b] (n, has, ())) = bif (BEq.beq n (0 : Int)) then (Tree.leaf (SV.b true)) else (bif has then (bif (decide (n > (0 : Int))) then (bif (decide (n < (16 : Int))) then (Tree.leaf (SV.b true)) else (Tree.leaf (SV.b false))) else (Tree.leaf (SV.b false))) else (Tree.leaf (SV.b false))) := by kernel_rfl
section
attribute [local irreducible] evF evFL evFLs
theorem a_isa_register (n : Int) (has : Bool) (ok_n : okI .i64 n) (ok_has : okS (encA (.b) has)) : (evF E_isa_register 60 180 (encArgs [.i .i64, .b] (n, has, ()))).ends fun out_ => decO [.b] out_ = some (K.regOk n has) := by
  rw [t_isa_register, Tree.ends_holds]
  simp only [Tree.holds_loop, Tree.holds_fork, Tree.holds_next, if_true, Tree.holds_cond, Tree.holds_letv, Tree.holds_leaf, Tree.holds_fail, decO, decA, decTup, decMach, decCore, decTrap, decInstr, decPart, decGuest, decConf, decEvent, decVcpu, decStep, bytesS, boolS, eventsS, intsS, guestsS, vcpusS, rowS, castL, Option.bind_some, Option.map_some, Option.some.injEq, Nat.beq_refl, beq_self_eq_true, Bool.and_self, cond_true, cond_false, eq_self, beq_iff_eq, beq_eq_false_iff_ne, bne_iff_ne, bne_eq_false_iff_eq, ne_eq, decide_eq_true_eq, decide_eq_false_iff_not, ble_true, ble_false, inRange_iff, inRange_false, K.regOk]
  repeat' (first | refine drop_ok ?_ | intro _ | with_reducible apply And.intro)
  all_goals (simp_all; try omega)
  
theorem c_isa_register : SpecOk EB 180 S_isa_register := spec_sig ok_isa_register (n := 60) fun ⟨n, has, ⟨⟩⟩ h hok => a_isa_register n has (ok_int (okSL_head hok)) (okSL_head (okSL_tail hok))
end

/-! isa_Valid -/

def S_isa_Valid : Spec := sig [.instr] [.b] (fun (i, _) => K.may i)
noncomputable def E_isa_Valid : Env := EB_0_1.adds [(149, S_isa_FormatOf), (179, S_bits_FitsSigned), (180, S_isa_register)]

theorem ok_isa_Valid : EnvOk E_isa_Valid := okEB_0_1.adds (l := _) ⟨(up_1_to_0_1 c_isa_FormatOf), (up_to_0_1 c_bits_FitsSigned), (up_to_0_1 c_isa_register), trivial⟩
theorem t_isa_Valid (i : PInstr) : evF E_isa_Valid 60 171 (encArgs [.instr] (i, ())) = Tree.letv (okO [(AT.i IntKind.i64)]) (K.form i.op) fun x0 => (bif (BEq.beq x0 (0 : Int)) then (Tree.leaf (SV.b false)) else (bif (inRange x0 8) then (bif (BEq.beq x0 (0 : Int)) then (bif (BEq.beq i.imm (0 : Int)) then (Tree.letv (okO [AT.b]) (K.regOk i.rd false) fun x1 => (bif x1 then (Tree.letv (okO [AT.b]) (K.regOk i.ra false) fun x2 => (bif x2 then (Tree.letv (okO [AT.b]) (K.regOk i.rb false) fun x3 => (bif x3 then (Tree.leaf (SV.b true)) else (Tree.leaf (SV.b false)))) else (Tree.leaf (SV.b false)))) else (Tree.leaf (SV.b false)))) else (Tree.leaf (SV.b false))) else (bif (BEq.beq x0 (1 : Int)) then (bif (BEq.beq i.imm (0 : Int)) then (Tree.letv (okO [AT.b]) (K.regOk i.rd true) fun x1 => (bif x1 then (Tree.letv (okO [AT.b]) (K.regOk i.ra true) fun x2 => (bif x2 then (Tree.letv (okO [AT.b]) (K.regOk i.rb true) fun x3 => (bif x3 then (Tree.leaf (SV.b true)) else (Tree.leaf (SV.b false)))) else (Tree.leaf (SV.b false)))) else (Tree.leaf (SV.b false)))) else (Tree.leaf (SV.b false))) else (bif (BEq.beq x0 (2 : Int)) then (bif (BEq.beq i.imm (0 : Int)) then (Tree.letv (okO [AT.b]) (K.regOk i.rd true) fun x1 => (bif x1 then (Tree.letv (okO [AT.b]) (K.regOk i.ra true) fun x2 => (bif x2 then (Tree.letv (okO [AT.b]) (K.regOk i.rb false) fun x3 => (bif x3 then (Tree.leaf (SV.b true)) else (Tree.leaf (SV.b false)))) else (Tree.leaf (SV.b false)))) else (Tree.leaf (SV.b false)))) else (Tree.letv
 (okO [AT.b]) (Bool.and (decide ((-131072 : Int) ≤ i.imm)) (decide (i.imm < (131072 : Int)))) fun x1 => (bif x1 then (Tree.letv (okO [AT.b]) (K.regOk i.rd true) fun x2 => (bif x2 then (Tree.letv (okO [AT.b]) (K.regOk i.ra true) fun x3 => (bif x3 then (Tree.letv (okO [AT.b]) (K.regOk i.rb false) fun x4 => (bif x4 then (Tree.leaf (SV.b true)) else (Tree.leaf (SV.b false)))) else (Tree.leaf (SV.b false)))) else (Tree.leaf (SV.b false)))) else (Tree.leaf (SV.b false))))) else (bif (BEq.beq x0 (3 : Int)) then (bif (BEq.beq i.imm (0 : Int)) then (Tree.letv (okO [AT.b]) (K.regOk i.rd true) fun x1 => (bif x1 then (Tree.letv (okO [AT.b]) (K.regOk i.ra false) fun x2 => (bif x2 then (Tree.letv (okO [AT.b]) (K.regOk i.rb false) fun x3 => (bif x3 then (Tree.leaf (SV.b true)) else (Tree.leaf (SV.b false)))) else (Tree.leaf (SV.b false)))) else (Tree.leaf (SV.b false)))) else (Tree.letv (okO [AT.b]) (Bool.and (decide ((-131072 : Int) ≤ i.imm)) (decide (i.imm < (131072 : Int)))) fun x1 => (bif x1 then (Tree.letv (okO [AT.b]) (K.regOk i.rd true) fun x2 => (bif x2 then (Tree.letv (okO [AT.b]) (K.regOk i.ra false) fun x3 => (bif x3 then (Tree.letv (okO [AT.b]) (K.regOk i.rb false) fun x4 => (bif x4 then (Tree.leaf (SV.b true)) else (Tree.leaf (SV.b false)))) else (Tree.leaf (SV.b false)))) else (Tree.leaf (SV.b false)))) else (Tree.leaf (SV.b false))))) else (bif (BEq.beq x0 (4 : Int)) then (bif (BEq.beq i.imm (0 : Int)) then (Tree.letv (okO [AT.b]) (K.regOk i.rd false) fun x1 => (bif x1 then
 (Tree.letv (okO [AT.b]) (K.regOk i.ra false) fun x2 => (bif x2 then (Tree.letv (okO [AT.b]) (K.regOk i.rb false) fun x3 => (bif x3 then (Tree.leaf (SV.b true)) else (Tree.leaf (SV.b false)))) else (Tree.leaf (SV.b false)))) else (Tree.leaf (SV.b false)))) else (Tree.leaf (SV.b false))) else (bif (BEq.beq x0 (5 : Int)) then (bif (BEq.beq i.imm (0 : Int)) then (Tree.letv (okO [AT.b]) (K.regOk i.rd true) fun x1 => (bif x1 then (Tree.letv (okO [AT.b]) (K.regOk i.ra false) fun x2 => (bif x2 then (Tree.letv (okO [AT.b]) (K.regOk i.rb false) fun x3 => (bif x3 then (Tree.leaf (SV.b true)) else (Tree.leaf (SV.b false)))) else (Tree.leaf (SV.b false)))) else (Tree.leaf (SV.b false)))) else (bif (decide (i.imm > (0 : Int))) then (bif (decide (i.imm < (12 : Int))) then (Tree.letv (okO [AT.b]) (K.regOk i.rd true) fun x1 => (bif x1 then (Tree.letv (okO [AT.b]) (K.regOk i.ra false) fun x2 => (bif x2 then (Tree.letv (okO [AT.b]) (K.regOk i.rb false) fun x3 => (bif x3 then (Tree.leaf (SV.b true)) else (Tree.leaf (SV.b false)))) else (Tree.leaf (SV.b false)))) else (Tree.leaf (SV.b false)))) else (Tree.leaf (SV.b false))) else (Tree.leaf (SV.b false)))) else (bif (BEq.beq x0 (6 : Int)) then (bif (BEq.beq i.imm (0 : Int)) then (Tree.letv (okO [AT.b]) (K.regOk i.rd false) fun x1 => (bif x1 then (Tree.letv (okO [AT.b]) (K.regOk i.ra true) fun x2 => (bif x2 then (Tree.letv (okO [AT.b]) (K.regOk i.rb false) fun x3 => (bif x3 then (Tree.leaf (SV.b true)) else (Tree.leaf (SV.b false)))) else
 (Tree.leaf (SV.b false)))) else (Tree.leaf (SV.b false)))) else (bif (decide (i.imm > (0 : Int))) then (bif (decide (i.imm < (12 : Int))) then (Tree.letv (okO [AT.b]) (K.regOk i.rd false) fun x1 => (bif x1 then (Tree.letv (okO [AT.b]) (K.regOk i.ra true) fun x2 => (bif x2 then (Tree.letv (okO [AT.b]) (K.regOk i.rb false) fun x3 => (bif x3 then (Tree.leaf (SV.b true)) else (Tree.leaf (SV.b false)))) else (Tree.leaf (SV.b false)))) else (Tree.leaf (SV.b false)))) else (Tree.leaf (SV.b false))) else (Tree.leaf (SV.b false)))) else (bif (BEq.beq x0 (7 : Int)) then (bif (BEq.beq i.imm (0 : Int)) then (Tree.letv (okO [AT.b]) (K.regOk i.rd false) fun x1 => (bif x1 then (Tree.letv (okO [AT.b]) (K.regOk i.ra true) fun x2 => (bif x2 then (Tree.letv (okO [AT.b]) (K.regOk i.rb false) fun x3 => (bif x3 then (Tree.leaf (SV.b true)) else (Tree.leaf (SV.b false)))) else (Tree.leaf (SV.b false)))) else (Tree.leaf (SV.b false)))) else (Tree.leaf (SV.b false))) else (Tree.fail))))))))) else (Tree.fail))) := by kernel_rfl
section
attribute [local irreducible] evF evFL evFLs
theorem a_isa_Valid (i : PInstr) (ok_i : okInstr i) : (evF E_isa_Valid 60 171 (encArgs [.instr] (i, ()))).ends fun out_ => decO [.b] out_ = some (K.may i) := by
  rw [t_isa_Valid, Tree.ends_holds]
  simp only [Tree.holds_loop, Tree.holds_fork, Tree.holds_next, if_true, Tree.holds_cond, Tree.holds_letv, Tree.holds_leaf, Tree.holds_fail, decO, decA, decTup, decMach, decCore, decTrap, decInstr, decPart, decGuest, decConf, decEvent, decVcpu, decStep, bytesS, boolS, eventsS, intsS, guestsS, vcpusS, rowS, castL, Option.bind_some, Option.map_some, Option.some.injEq, Nat.beq_refl, beq_self_eq_true, Bool.and_self, cond_true, cond_false, eq_self, beq_iff_eq, beq_eq_false_iff_ne, bne_iff_ne, bne_eq_false_iff_eq, ne_eq, decide_eq_true_eq, decide_eq_false_iff_not, ble_true, ble_false, inRange_iff, inRange_false]
  unfold K.may
  have hf := form_range i.op
  dsimp only
  generalize K.form i.op = f at *
  clear ok_i
  rcases hf with rfl | rfl | rfl | rfl | rfl | rfl | rfl | rfl
  all_goals simp
  all_goals
    repeat' (first | refine drop_ok ?_ | intro _ | with_reducible apply And.intro)
    all_goals first | omega | (simp_all; done) | (simp_all; omega) | grind
  
theorem c_isa_Valid : SpecOk EB_0_1 171 S_isa_Valid := spec_sig ok_isa_Valid (n := 60) fun ⟨i, ⟨⟩⟩ h hok => a_isa_Valid i (ok_instr (okSL_head hok))
end

/-! bits_Insert -/

def S_bits_Insert : Spec := sig [.i .u32, .i .i64, .i .i64, .i .u32] [.i .u32] (fun (w, at_, n, v, _) => K.bput w at_ n v) (pre := fun (w, at_, n, v, _) => decide (0 ≤ at_ ∧ 0 ≤ n ∧ at_ + n ≤ 32))
noncomputable def E_bits_Insert : Env := EB.adds [(170, S_bits_low64)]

theorem ok_bits_Insert : EnvOk E_bits_Insert := okEB.adds (l := _) ⟨c_bits_low64, trivial⟩
theorem t_bits_Insert (w : Int) (at_ : Int) (n : Int) (v : Int) : evF E_bits_Insert 60 172 (encArgs [.i .u32, .i .i64, .i .i64, .i .u32] (w, at_, n, v, ())) = bif (decide (And ((0 : Int) ≤ n) (n ≤ (63 : Int)))) then (Tree.letv (okO [(AT.i IntKind.u64)]) ((18446744073709551615 : Int) % (K.pow n)) fun x0 => (bif (decide ((0 : Int) ≤ (IntKind.wrap IntKind.u64 at_))) then (bif (decide (And ((0 : Int) ≤ n) (n ≤ (63 : Int)))) then (Tree.letv (okO [(AT.i IntKind.u64)]) ((IntKind.wrap IntKind.u64 v) % (K.pow n)) fun x1 => (bif (decide ((0 : Int) ≤ (IntKind.wrap IntKind.u64 at_))) then (Tree.leaf (SV.v (Value.int IntKind.u32 (orI IntKind.u32 (andNotI IntKind.u32 w (IntKind.wrap IntKind.u32 ((IntKind.wrap IntKind.u32 x0) * ((2 : Int) ^ (if ((Int.toNat (IntKind.wrap IntKind.u64 at_)) ≤ 32) then (Int.toNat (IntKind.wrap IntKind.u64 at_)) else 32))))) (IntKind.wrap IntKind.u32 ((IntKind.wrap IntKind.u32 x1) * ((2 : Int) ^ (if ((Int.toNat (IntKind.wrap IntKind.u64 at_)) ≤ 32) then (Int.toNat (IntKind.wrap IntKind.u64 at_)) else 32)))))))) else (Tree.fail))) else (Tree.fail)) else (Tree.fail))) else (Tree.fail) := by kernel_rfl
section
attribute [local irreducible] evF evFL evFLs
theorem a_bits_Insert (w : Int) (at_ : Int) (n : Int) (v : Int) (hpre : 0 ≤ at_ ∧ 0 ≤ n ∧ at_ + n ≤ 32) (ok_w : okI .u32 w) (ok_at_ : okI .i64 at_) (ok_n : okI .i64 n) (ok_v : okI .u32 v) : (evF E_bits_Insert 60 172 (encArgs [.i .u32, .i .i64, .i .i64, .i .u32] (w, at_, n, v, ()))).ends fun out_ => decO [.i .u32] out_ = some (K.bput w at_ n v) := by
  rw [t_bits_Insert, Tree.ends_holds]
  obtain ⟨w0, w1⟩ := okI_u32 ok_w
  obtain ⟨v0, v1⟩ := okI_u32 ok_v
  obtain ⟨w, rfl⟩ := Int.eq_ofNat_of_zero_le w0
  obtain ⟨v, rfl⟩ := Int.eq_ofNat_of_zero_le v0
  obtain ⟨a, rfl⟩ := Int.eq_ofNat_of_zero_le hpre.1
  obtain ⟨n, rfl⟩ := Int.eq_ofNat_of_zero_le hpre.2.1
  have pa := Nat.two_pow_pos a
  have pn := Nat.two_pow_pos n
  have ln := pow_le32 (i := n) (by omega)
  have e0 : IntKind.u64.wrap (a : Int) = (a : Int) := by rw [wrap64]; omega
  have e1 : IntKind.u64.wrap (v : Int) = (v : Int) := by rw [wrap64]; omega
  have e2 : (18446744073709551615 : Int) % K.pow (n : Int) = ((2 ^ n - 1 : Nat) : Int) := by
    have h1 : (18446744073709551615 : Int) % K.pow (n : Int) = ((18446744073709551615 % 2 ^ n : Nat) : Int) := by simp [K.pow]
    rw [h1]; congr 1
    have h2 : (2 : Nat) ^ 64 = 2 ^ (64 - n) * 2 ^ n := by rw [← Nat.pow_add]; congr 1; omega
    have h3 : 0 < 2 ^ (64 - n) := Nat.two_pow_pos _
    have h4 : (18446744073709551615 : Nat) = (2 ^ n - 1) + 2 ^ n * (2 ^ (64 - n) - 1) := by
      rw [Nat.mul_sub, Nat.mul_one, Nat.mul_comm (2 ^ n), ← h2]
      have : 2 ^ n ≤ 2 ^ (64 - n) * 2 ^ n := Nat.le_mul_of_pos_left _ h3
      omega
    rw [h4, Nat.add_mul_mod_self_left, Nat.mod_eq_of_lt (by omega)]
  have hm : (2 ^ n - 1) * 2 ^ a < 4294967296 := by
    have h1 : (2 ^ n - 1) * 2 ^ a < 2 ^ n * 2 ^ a := Nat.mul_lt_mul_of_pos_right (by omega) pa
    rw [← Nat.pow_add] at h1
    have h2 := pow_le32 (i := n + a) (by omega)
    omega
  have hs : v % 2 ^ n * 2 ^ a < 4294967296 := by
    have h1 : v % 2 ^ n * 2 ^ a ≤ (2 ^ n - 1) * 2 ^ a := Nat.mul_le_mul_right _ (by have := Nat.mod_lt v pn; omega)
    omega
  have e3 : ∀ x : Nat, x < 4294967296 → x * 2 ^ a < 4294967296 → IntKind.u32.wrap (IntKind.u32.wrap (x : Int) * 2 ^ (if a ≤ 32 then a else 32)) = ((x * 2 ^ a : Nat) : Int) := fun x hx h => by
    rw [if_pos (by omega), wrap32, wrap32, Int.emod_eq_of_lt (a := (x : Int)) (by omega) (by omega)]
    rw [show (x : Int) * 2 ^ a = ((x * 2 ^ a : Nat) : Int) by simp]
    omega
  have e4 : (v : Int) % K.pow (n : Int) = ((v % 2 ^ n : Nat) : Int) := by simp [K.pow]
  have e5 := e3 (2 ^ n - 1) (by omega) hm
  have e6 := e3 (v % 2 ^ n) (by have := Nat.mod_lt v pn; omega) hs
  have e7 : decide (0 ≤ (n : Int) ∧ (n : Int) ≤ 63) = true := decide_eq_true (by omega)
  have e8 := insert_nat (w := w) (a := a) (n := n) (v := v) (by omega) (by omega) (by omega)
  have e9 : orI .u32 (andNotI .u32 (w : Int) (((2 ^ n - 1) * 2 ^ a : Nat) : Int)) ((v % 2 ^ n * 2 ^ a : Nat) : Int) = K.bput (w : Int) (a : Int) (n : Int) (v : Int) := by
    have hle : w &&& (2 ^ n - 1) * 2 ^ a ≤ w := Nat.and_le_left
    rw [andNot32_nat (by omega) hm, or32_nat (by omega) hs, e8]; rfl
  simp only [Tree.holds_loop, Tree.holds_fork, Tree.holds_next, if_true, Tree.holds_cond, Tree.holds_letv, Tree.holds_leaf, Tree.holds_fail, decO, decA, decTup, decMach, decCore, decTrap, decInstr, decPart, decGuest, decConf, decEvent, decVcpu, decStep, bytesS, boolS, eventsS, intsS, guestsS, vcpusS, rowS, castL, Option.bind_some, Option.map_some, Option.some.injEq, Nat.beq_refl, beq_self_eq_true, Bool.and_self, cond_true, cond_false, eq_self, e0, e1, e2, e4, Int.toNat_natCast, e5, e6, e7, e9]
  simp
  
theorem c_bits_Insert : SpecOk EB 172 S_bits_Insert := spec_sig ok_bits_Insert (n := 60) fun ⟨w, at_, n, v, ⟨⟩⟩ h hok => a_bits_Insert w at_ n v (of_decide_eq_true h) (ok_int (okSL_head hok)) (ok_int (okSL_head (okSL_tail hok))) (ok_int (okSL_head (okSL_tail (okSL_tail hok)))) (ok_int (okSL_head (okSL_tail (okSL_tail (okSL_tail hok)))))
end

/-! bits_LowBits -/

def S_bits_LowBits : Spec := sig [.i .i32, .i .i64] [.i .u32] (fun (v, n, _) => v % 262144) (pre := fun (v, n, _) => decide (n = 18))
noncomputable def E_bits_LowBits : Env := EB.adds [(154, S_bits_Extract)]

theorem ok_bits_LowBits : EnvOk E_bits_LowBits := okEB.adds (l := _) ⟨c_bits_Extract, trivial⟩
theorem t_bits_LowBits (v : Int) (n : Int) : evF E_bits_LowBits 60 173 (encArgs [.i .i32, .i .i64] (v, n, ())) = bif (decide (And ((0 : Int) ≤ (0 : Int)) (And ((0 : Int) ≤ (63 : Int)) (And ((0 : Int) ≤ n) (n ≤ (63 : Int)))))) then (Tree.letv (okO [(AT.i IntKind.u32)]) (K.field (IntKind.wrap IntKind.u32 v) (0 : Int) n) fun x0 => (Tree.leaf (SV.v (Value.int IntKind.u32 x0)))) else (Tree.fail) := by kernel_rfl
section
attribute [local irreducible] evF evFL evFLs
theorem a_bits_LowBits (v : Int) (n : Int) (hpre : n = 18) (ok_v : okI .i32 v) (ok_n : okI .i64 n) : (evF E_bits_LowBits 60 173 (encArgs [.i .i32, .i .i64] (v, n, ()))).ends fun out_ => decO [.i .u32] out_ = some (v % 262144) := by
  rw [t_bits_LowBits, Tree.ends_holds]
  obtain ⟨v0, v1⟩ := okI_i32 ok_v
  subst hpre
  simp only [Tree.holds_loop, Tree.holds_fork, Tree.holds_next, if_true, Tree.holds_cond, Tree.holds_letv, Tree.holds_leaf, Tree.holds_fail, decO, decA, decTup, decMach, decCore, decTrap, decInstr, decPart, decGuest, decConf, decEvent, decVcpu, decStep, bytesS, boolS, eventsS, intsS, guestsS, vcpusS, rowS, castL, Option.bind_some, Option.map_some, Option.some.injEq, Nat.beq_refl, beq_self_eq_true, Bool.and_self, cond_true, cond_false, eq_self, K.field, wrap32]
  have : (v % 4294967296) / K.pow 0 % K.pow 18 = v % 262144 := by simp [K.pow] <;> omega
  rw [this]; simp
  
theorem c_bits_LowBits : SpecOk EB 173 S_bits_LowBits := spec_sig ok_bits_LowBits (n := 60) fun ⟨v, n, ⟨⟩⟩ h hok => a_bits_LowBits v n (of_decide_eq_true h) (ok_int (okSL_head hok)) (ok_int (okSL_head (okSL_tail hok)))
end

/-! isa_Encode -/

def S_isa_Encode : Spec := sig [.instr] [.i .u32, .b] (fun (i, _) => K.encode i)
noncomputable def E_isa_Encode : Env := EB_0_1.adds [(171, S_isa_Valid), (172, S_bits_Insert), (173, S_bits_LowBits)]

theorem ok_isa_Encode : EnvOk E_isa_Encode := okEB_0_1.adds (l := _) ⟨c_isa_Valid, (up_to_0_1 c_bits_Insert), (up_to_0_1 c_bits_LowBits), trivial⟩
theorem t_isa_Encode (i : PInstr) : evF E_isa_Encode 60 156 (encArgs [.instr] (i, ())) = Tree.letv (okO [AT.b]) (K.may i) fun x0 => (bif x0 then (Tree.letv (okO [(AT.i IntKind.u32)]) (i.imm % (262144 : Int)) fun x1 => (Tree.letv (okO [(AT.i IntKind.u32)]) (K.bput (orI IntKind.u32 x1 (IntKind.wrap IntKind.u32 i.rb)) (26 : Int) (6 : Int) (IntKind.wrap IntKind.u32 i.op)) fun x2 => (Tree.letv (okO [(AT.i IntKind.u32)]) (K.bput x2 (22 : Int) (4 : Int) (IntKind.wrap IntKind.u32 i.rd)) fun x3 => (Tree.letv (okO [(AT.i IntKind.u32)]) (K.bput x3 (18 : Int) (4 : Int) (IntKind.wrap IntKind.u32 i.ra)) fun x4 => (Tree.leaf (SV.tup [(SV.v (Value.int IntKind.u32 x4)), (SV.b true)])))))) else (Tree.leaf (SV.tup [(SV.v (Value.int IntKind.u32 (0 : Int))), (SV.b false)]))) := by kernel_rfl
section
attribute [local irreducible] evF evFL evFLs
theorem a_isa_Encode (i : PInstr) (ok_i : okInstr i) : (evF E_isa_Encode 60 156 (encArgs [.instr] (i, ()))).ends fun out_ => decO [.i .u32, .b] out_ = some (K.encode i) := by
  rw [t_isa_Encode, Tree.ends_holds]
  have key : K.may i = true → K.bput (K.bput (K.bput (orI .u32 (i.imm % 262144) (i.rb % 4294967296)) 26 6 (i.op % 4294967296)) 22 4 (i.rd % 4294967296)) 18 4 (i.ra % 4294967296) = K.word i := fun h => by
    have m := K.may_of h
    obtain ⟨⟨a, b⟩, ⟨c, d⟩, ⟨e, f⟩, ⟨g, j⟩, ⟨k, l⟩, one, two⟩ := m
    have hl : orI .u32 (i.imm % 262144) (i.rb % 4294967296) = (if K.form i.op = 1 then i.rb else i.imm % 262144) := by
      split
      · rename_i h1
        rw [one h1]
        obtain ⟨n, hn⟩ := Int.eq_ofNat_of_zero_le g
        rw [hn, show (0 : Int) % 262144 = ((0 : Nat) : Int) from rfl, show (n : Int) % 4294967296 = (n : Int) by omega, or32_nat (by omega) (by omega), Nat.zero_or]
      · rename_i h1
        rw [two h1]
        obtain ⟨n, hn⟩ := Int.eq_ofNat_of_zero_le (show 0 ≤ i.imm % 262144 by omega)
        rw [hn, show (0 : Int) % 4294967296 = ((0 : Nat) : Int) from rfl, or32_nat (by omega) (by omega), Nat.or_zero]
    rw [hl]
    have hr : 0 ≤ (if K.form i.op = 1 then i.rb else i.imm % 262144) ∧ (if K.form i.op = 1 then i.rb else i.imm % 262144) < 262144 := by split <;> omega
    unfold K.word
    generalize (if K.form i.op = 1 then i.rb else i.imm % 262144) = z at *
    have b1 : ∀ x v : Int, K.bput x 26 6 v = ((67108864 * (64 * (x.toNat / 4294967296) + v.toNat % 64) + x.toNat % 67108864 : Nat) : Int) := fun _ _ => rfl
    have b2 : ∀ x v : Int, K.bput x 22 4 v = ((4194304 * (16 * (x.toNat / 67108864) + v.toNat % 16) + x.toNat % 4194304 : Nat) : Int) := fun _ _ => rfl
    have b3 : ∀ x v : Int, K.bput x 18 4 v = ((262144 * (16 * (x.toNat / 4194304) + v.toNat % 16) + x.toNat % 262144 : Nat) : Int) := fun _ _ => rfl
    rw [b1, b2, b3]
    omega
  simp only [Tree.holds_loop, Tree.holds_fork, Tree.holds_next, if_true, Tree.holds_cond, Tree.holds_letv, Tree.holds_leaf, Tree.holds_fail, decO, decA, decTup, decMach, decCore, decTrap, decInstr, decPart, decGuest, decConf, decEvent, decVcpu, decStep, bytesS, boolS, eventsS, intsS, guestsS, vcpusS, rowS, castL, Option.bind_some, Option.map_some, Option.some.injEq, Nat.beq_refl, beq_self_eq_true, Bool.and_self, cond_true, cond_false, eq_self, beq_iff_eq, beq_eq_false_iff_ne, bne_iff_ne, bne_eq_false_iff_eq, ne_eq, decide_eq_true_eq, decide_eq_false_iff_not, ble_true, ble_false, inRange_iff, inRange_false, wrap32]
  unfold K.encode
  repeat' (first | refine drop_ok ?_ | intro _ | with_reducible apply And.intro)
  · rename_i h; rw [key h, if_pos h]
  · rename_i h; rw [if_neg (by simp [h])]
  
theorem c_isa_Encode : SpecOk EB_0_1 156 S_isa_Encode := spec_sig ok_isa_Encode (n := 60) fun ⟨i, ⟨⟩⟩ h hok => a_isa_Encode i (ok_instr (okSL_head hok))
end

/-! isa_Decode -/

def S_isa_Decode : Spec := sig [.i .u32] [.instr, .b] (fun (w, _) => K.decode w)
noncomputable def E_isa_Decode : Env := EB_0_1.adds [(154, S_bits_Extract), (149, S_isa_FormatOf), (155, S_bits_SignExtend), (156, S_isa_Encode)]

theorem ok_isa_Decode : EnvOk E_isa_Decode := okEB_0_1.adds (l := _) ⟨(up_to_0_1 c_bits_Extract), (up_1_to_0_1 c_isa_FormatOf), (up_to_0_1 c_bits_SignExtend), c_isa_Encode, trivial⟩
theorem t_isa_Decode (w : Int) : evF E_isa_Decode 60 133 (encArgs [.i .u32] (w, ())) = Tree.letv (okO [(AT.i IntKind.u32)]) (K.field w (26 : Int) (6 : Int)) fun x0 => (Tree.letv (okO [(AT.i IntKind.u32)]) (K.field w (22 : Int) (4 : Int)) fun x1 => (Tree.letv (okO [(AT.i IntKind.u32)]) (K.field w (18 : Int) (4 : Int)) fun x2 => (Tree.letv (okO [(AT.i IntKind.i64)]) (K.form (IntKind.wrap IntKind.i64 x0)) fun x3 => (bif (inRange x3 8) then (bif (BEq.beq x3 (0 : Int)) then (Tree.letv (okO [(AT.i IntKind.i32)]) (K.sext w) fun x4 => (Tree.letv (okO [(AT.i IntKind.u32), AT.b]) (K.encode (PInstr.mk (IntKind.wrap IntKind.i64 x0) (IntKind.wrap IntKind.i64 x1) (IntKind.wrap IntKind.i64 x2) (0 : Int) x4)) fun x5 => (bif x5.snd then (bif (bne x5.fst w) then (Tree.leaf (SV.tup [(SV.agg [(SV.v (Value.int IntKind.i64 (0 : Int))), (SV.v (Value.int IntKind.i64 (0 : Int))), (SV.v (Value.int IntKind.i64 (0 : Int))), (SV.v (Value.int IntKind.i64 (0 : Int))), (SV.v (Value.int IntKind.i32 (0 : Int)))]), (SV.b false)])) else (Tree.leaf (SV.tup [(SV.agg [(SV.v (Value.int IntKind.i64 (IntKind.wrap IntKind.i64 x0))), (SV.v (Value.int IntKind.i64 (IntKind.wrap IntKind.i64 x1))), (SV.v (Value.int IntKind.i64 (IntKind.wrap IntKind.i64 x2))), (SV.v (Value.int IntKind.i64 (0 : Int))), (SV.v (Value.int IntKind.i32 x4))]), (SV.b true)]))) else (Tree.leaf (SV.tup [(SV.agg [(SV.v (Value.int IntKind.i64 (0 : Int))), (SV.v (Value.int IntKind.i64 (0 : Int))), (SV.v (Value.int IntKind.i64 (0 : Int))), (SV.v
 (Value.int IntKind.i64 (0 : Int))), (SV.v (Value.int IntKind.i32 (0 : Int)))]), (SV.b false)]))))) else (bif (BEq.beq x3 (1 : Int)) then (Tree.letv (okO [(AT.i IntKind.u32)]) (K.field w (0 : Int) (4 : Int)) fun x4 => (Tree.letv (okO [(AT.i IntKind.u32), AT.b]) (K.encode (PInstr.mk (IntKind.wrap IntKind.i64 x0) (IntKind.wrap IntKind.i64 x1) (IntKind.wrap IntKind.i64 x2) (IntKind.wrap IntKind.i64 x4) (0 : Int))) fun x5 => (bif x5.snd then (bif (bne x5.fst w) then (Tree.leaf (SV.tup [(SV.agg [(SV.v (Value.int IntKind.i64 (0 : Int))), (SV.v (Value.int IntKind.i64 (0 : Int))), (SV.v (Value.int IntKind.i64 (0 : Int))), (SV.v (Value.int IntKind.i64 (0 : Int))), (SV.v (Value.int IntKind.i32 (0 : Int)))]), (SV.b false)])) else (Tree.leaf (SV.tup [(SV.agg [(SV.v (Value.int IntKind.i64 (IntKind.wrap IntKind.i64 x0))), (SV.v (Value.int IntKind.i64 (IntKind.wrap IntKind.i64 x1))), (SV.v (Value.int IntKind.i64 (IntKind.wrap IntKind.i64 x2))), (SV.v (Value.int IntKind.i64 (IntKind.wrap IntKind.i64 x4))), (SV.v (Value.int IntKind.i32 (0 : Int)))]), (SV.b true)]))) else (Tree.leaf (SV.tup [(SV.agg [(SV.v (Value.int IntKind.i64 (0 : Int))), (SV.v (Value.int IntKind.i64 (0 : Int))), (SV.v (Value.int IntKind.i64 (0 : Int))), (SV.v (Value.int IntKind.i64 (0 : Int))), (SV.v (Value.int IntKind.i32 (0 : Int)))]), (SV.b false)]))))) else (bif (BEq.beq x3 (2 : Int)) then (Tree.letv (okO [(AT.i IntKind.i32)]) (K.sext w) fun x4 => (Tree.letv (okO [(AT.i IntKind.u32), AT.b]) (K.encode (PInstr.mk
 (IntKind.wrap IntKind.i64 x0) (IntKind.wrap IntKind.i64 x1) (IntKind.wrap IntKind.i64 x2) (0 : Int) x4)) fun x5 => (bif x5.snd then (bif (bne x5.fst w) then (Tree.leaf (SV.tup [(SV.agg [(SV.v (Value.int IntKind.i64 (0 : Int))), (SV.v (Value.int IntKind.i64 (0 : Int))), (SV.v (Value.int IntKind.i64 (0 : Int))), (SV.v (Value.int IntKind.i64 (0 : Int))), (SV.v (Value.int IntKind.i32 (0 : Int)))]), (SV.b false)])) else (Tree.leaf (SV.tup [(SV.agg [(SV.v (Value.int IntKind.i64 (IntKind.wrap IntKind.i64 x0))), (SV.v (Value.int IntKind.i64 (IntKind.wrap IntKind.i64 x1))), (SV.v (Value.int IntKind.i64 (IntKind.wrap IntKind.i64 x2))), (SV.v (Value.int IntKind.i64 (0 : Int))), (SV.v (Value.int IntKind.i32 x4))]), (SV.b true)]))) else (Tree.leaf (SV.tup [(SV.agg [(SV.v (Value.int IntKind.i64 (0 : Int))), (SV.v (Value.int IntKind.i64 (0 : Int))), (SV.v (Value.int IntKind.i64 (0 : Int))), (SV.v (Value.int IntKind.i64 (0 : Int))), (SV.v (Value.int IntKind.i32 (0 : Int)))]), (SV.b false)]))))) else (bif (BEq.beq x3 (3 : Int)) then (Tree.letv (okO [(AT.i IntKind.i32)]) (K.sext w) fun x4 => (Tree.letv (okO [(AT.i IntKind.u32), AT.b]) (K.encode (PInstr.mk (IntKind.wrap IntKind.i64 x0) (IntKind.wrap IntKind.i64 x1) (IntKind.wrap IntKind.i64 x2) (0 : Int) x4)) fun x5 => (bif x5.snd then (bif (bne x5.fst w) then (Tree.leaf (SV.tup [(SV.agg [(SV.v (Value.int IntKind.i64 (0 : Int))), (SV.v (Value.int IntKind.i64 (0 : Int))), (SV.v (Value.int IntKind.i64 (0 : Int))), (SV.v (Value.int IntKind.i64 (0 :
 Int))), (SV.v (Value.int IntKind.i32 (0 : Int)))]), (SV.b false)])) else (Tree.leaf (SV.tup [(SV.agg [(SV.v (Value.int IntKind.i64 (IntKind.wrap IntKind.i64 x0))), (SV.v (Value.int IntKind.i64 (IntKind.wrap IntKind.i64 x1))), (SV.v (Value.int IntKind.i64 (IntKind.wrap IntKind.i64 x2))), (SV.v (Value.int IntKind.i64 (0 : Int))), (SV.v (Value.int IntKind.i32 x4))]), (SV.b true)]))) else (Tree.leaf (SV.tup [(SV.agg [(SV.v (Value.int IntKind.i64 (0 : Int))), (SV.v (Value.int IntKind.i64 (0 : Int))), (SV.v (Value.int IntKind.i64 (0 : Int))), (SV.v (Value.int IntKind.i64 (0 : Int))), (SV.v (Value.int IntKind.i32 (0 : Int)))]), (SV.b false)]))))) else (bif (BEq.beq x3 (4 : Int)) then (Tree.letv (okO [(AT.i IntKind.i32)]) (K.sext w) fun x4 => (Tree.letv (okO [(AT.i IntKind.u32), AT.b]) (K.encode (PInstr.mk (IntKind.wrap IntKind.i64 x0) (IntKind.wrap IntKind.i64 x1) (IntKind.wrap IntKind.i64 x2) (0 : Int) x4)) fun x5 => (bif x5.snd then (bif (bne x5.fst w) then (Tree.leaf (SV.tup [(SV.agg [(SV.v (Value.int IntKind.i64 (0 : Int))), (SV.v (Value.int IntKind.i64 (0 : Int))), (SV.v (Value.int IntKind.i64 (0 : Int))), (SV.v (Value.int IntKind.i64 (0 : Int))), (SV.v (Value.int IntKind.i32 (0 : Int)))]), (SV.b false)])) else (Tree.leaf (SV.tup [(SV.agg [(SV.v (Value.int IntKind.i64 (IntKind.wrap IntKind.i64 x0))), (SV.v (Value.int IntKind.i64 (IntKind.wrap IntKind.i64 x1))), (SV.v (Value.int IntKind.i64 (IntKind.wrap IntKind.i64 x2))), (SV.v (Value.int IntKind.i64 (0 : Int))), (SV.v
 (Value.int IntKind.i32 x4))]), (SV.b true)]))) else (Tree.leaf (SV.tup [(SV.agg [(SV.v (Value.int IntKind.i64 (0 : Int))), (SV.v (Value.int IntKind.i64 (0 : Int))), (SV.v (Value.int IntKind.i64 (0 : Int))), (SV.v (Value.int IntKind.i64 (0 : Int))), (SV.v (Value.int IntKind.i32 (0 : Int)))]), (SV.b false)]))))) else (bif (BEq.beq x3 (5 : Int)) then (Tree.letv (okO [(AT.i IntKind.i32)]) (K.sext w) fun x4 => (Tree.letv (okO [(AT.i IntKind.u32), AT.b]) (K.encode (PInstr.mk (IntKind.wrap IntKind.i64 x0) (IntKind.wrap IntKind.i64 x1) (IntKind.wrap IntKind.i64 x2) (0 : Int) x4)) fun x5 => (bif x5.snd then (bif (bne x5.fst w) then (Tree.leaf (SV.tup [(SV.agg [(SV.v (Value.int IntKind.i64 (0 : Int))), (SV.v (Value.int IntKind.i64 (0 : Int))), (SV.v (Value.int IntKind.i64 (0 : Int))), (SV.v (Value.int IntKind.i64 (0 : Int))), (SV.v (Value.int IntKind.i32 (0 : Int)))]), (SV.b false)])) else (Tree.leaf (SV.tup [(SV.agg [(SV.v (Value.int IntKind.i64 (IntKind.wrap IntKind.i64 x0))), (SV.v (Value.int IntKind.i64 (IntKind.wrap IntKind.i64 x1))), (SV.v (Value.int IntKind.i64 (IntKind.wrap IntKind.i64 x2))), (SV.v (Value.int IntKind.i64 (0 : Int))), (SV.v (Value.int IntKind.i32 x4))]), (SV.b true)]))) else (Tree.leaf (SV.tup [(SV.agg [(SV.v (Value.int IntKind.i64 (0 : Int))), (SV.v (Value.int IntKind.i64 (0 : Int))), (SV.v (Value.int IntKind.i64 (0 : Int))), (SV.v (Value.int IntKind.i64 (0 : Int))), (SV.v (Value.int IntKind.i32 (0 : Int)))]), (SV.b false)]))))) else (bif (BEq.beq x3 (6 : Int))
 then (Tree.letv (okO [(AT.i IntKind.i32)]) (K.sext w) fun x4 => (Tree.letv (okO [(AT.i IntKind.u32), AT.b]) (K.encode (PInstr.mk (IntKind.wrap IntKind.i64 x0) (IntKind.wrap IntKind.i64 x1) (IntKind.wrap IntKind.i64 x2) (0 : Int) x4)) fun x5 => (bif x5.snd then (bif (bne x5.fst w) then (Tree.leaf (SV.tup [(SV.agg [(SV.v (Value.int IntKind.i64 (0 : Int))), (SV.v (Value.int IntKind.i64 (0 : Int))), (SV.v (Value.int IntKind.i64 (0 : Int))), (SV.v (Value.int IntKind.i64 (0 : Int))), (SV.v (Value.int IntKind.i32 (0 : Int)))]), (SV.b false)])) else (Tree.leaf (SV.tup [(SV.agg [(SV.v (Value.int IntKind.i64 (IntKind.wrap IntKind.i64 x0))), (SV.v (Value.int IntKind.i64 (IntKind.wrap IntKind.i64 x1))), (SV.v (Value.int IntKind.i64 (IntKind.wrap IntKind.i64 x2))), (SV.v (Value.int IntKind.i64 (0 : Int))), (SV.v (Value.int IntKind.i32 x4))]), (SV.b true)]))) else (Tree.leaf (SV.tup [(SV.agg [(SV.v (Value.int IntKind.i64 (0 : Int))), (SV.v (Value.int IntKind.i64 (0 : Int))), (SV.v (Value.int IntKind.i64 (0 : Int))), (SV.v (Value.int IntKind.i64 (0 : Int))), (SV.v (Value.int IntKind.i32 (0 : Int)))]), (SV.b false)]))))) else (bif (BEq.beq x3 (7 : Int)) then (Tree.letv (okO [(AT.i IntKind.i32)]) (K.sext w) fun x4 => (Tree.letv (okO [(AT.i IntKind.u32), AT.b]) (K.encode (PInstr.mk (IntKind.wrap IntKind.i64 x0) (IntKind.wrap IntKind.i64 x1) (IntKind.wrap IntKind.i64 x2) (0 : Int) x4)) fun x5 => (bif x5.snd then (bif (bne x5.fst w) then (Tree.leaf (SV.tup [(SV.agg [(SV.v (Value.int IntKind.i64
 (0 : Int))), (SV.v (Value.int IntKind.i64 (0 : Int))), (SV.v (Value.int IntKind.i64 (0 : Int))), (SV.v (Value.int IntKind.i64 (0 : Int))), (SV.v (Value.int IntKind.i32 (0 : Int)))]), (SV.b false)])) else (Tree.leaf (SV.tup [(SV.agg [(SV.v (Value.int IntKind.i64 (IntKind.wrap IntKind.i64 x0))), (SV.v (Value.int IntKind.i64 (IntKind.wrap IntKind.i64 x1))), (SV.v (Value.int IntKind.i64 (IntKind.wrap IntKind.i64 x2))), (SV.v (Value.int IntKind.i64 (0 : Int))), (SV.v (Value.int IntKind.i32 x4))]), (SV.b true)]))) else (Tree.leaf (SV.tup [(SV.agg [(SV.v (Value.int IntKind.i64 (0 : Int))), (SV.v (Value.int IntKind.i64 (0 : Int))), (SV.v (Value.int IntKind.i64 (0 : Int))), (SV.v (Value.int IntKind.i64 (0 : Int))), (SV.v (Value.int IntKind.i32 (0 : Int)))]), (SV.b false)]))))) else (Tree.fail))))))))) else (Tree.fail))))) := by kernel_rfl
section
attribute [local irreducible] evF evFL evFLs
theorem a_isa_Decode (w : Int) (ok_w : okI .u32 w) : (evF E_isa_Decode 60 133 (encArgs [.i .u32] (w, ()))).ends fun out_ => decO [.instr, .b] out_ = some (K.decode w) := by
  rw [t_isa_Decode, Tree.ends_holds]
  obtain ⟨w0, w1⟩ := okI_u32 ok_w
  have f1 : K.field w 26 6 = w / 67108864 := by simp [K.field, K.pow]; omega
  have f2 : K.field w 22 4 = w / 4194304 % 16 := by simp [K.field, K.pow]
  have f3 : K.field w 18 4 = w / 262144 % 16 := by simp [K.field, K.pow]
  have f4 : K.field w 0 4 = w % 16 := by simp [K.field, K.pow]
  have i1 : IntKind.i64.wrap (w / 67108864) = w / 67108864 := wrapI64 (by omega) (by omega)
  have i2 : IntKind.i64.wrap (w / 4194304 % 16) = w / 4194304 % 16 := wrapI64 (by omega) (by omega)
  have i3 : IntKind.i64.wrap (w / 262144 % 16) = w / 262144 % 16 := wrapI64 (by omega) (by omega)
  have i4 : IntKind.i64.wrap (w % 16) = w % 16 := wrapI64 (by omega) (by omega)
  have hf := form_range (w / 67108864)
  have g1 : K.form (w / 67108864) = 1 → (⟨w / 67108864, w / 4194304 % 16, w / 262144 % 16, w % 16, 0⟩ : PInstr) = K.splitW w := fun h => by simp [K.splitW, h]
  have g2 : K.form (w / 67108864) ≠ 1 → (⟨w / 67108864, w / 4194304 % 16, w / 262144 % 16, 0, K.sext w⟩ : PInstr) = K.splitW w := fun h => by simp [K.splitW, h]
  have d1 : (K.encode (K.splitW w)).2 = true → (K.encode (K.splitW w)).1 = w → K.decode w = (K.splitW w, true) := fun h1 h2 => by
    unfold K.encode at h1 h2
    by_cases hm : K.may (K.splitW w) = true
    · rw [if_pos hm] at h2; unfold K.decode; rw [if_pos ⟨hm, h2⟩]
    · rw [if_neg hm] at h1; simp at h1
  have d2 : ¬ ((K.encode (K.splitW w)).2 = true ∧ (K.encode (K.splitW w)).1 = w) → K.decode w = (⟨0, 0, 0, 0, 0⟩, false) := fun h => by
    unfold K.encode at h
    unfold K.decode
    rw [if_neg]
    rintro ⟨h1, h2⟩
    rw [if_pos h1] at h; exact h ⟨rfl, h2⟩
  simp only [Tree.holds_loop, Tree.holds_fork, Tree.holds_next, if_true, Tree.holds_cond, Tree.holds_letv, Tree.holds_leaf, Tree.holds_fail, decO, decA, decTup, decMach, decCore, decTrap, decInstr, decPart, decGuest, decConf, decEvent, decVcpu, decStep, bytesS, boolS, eventsS, intsS, guestsS, vcpusS, rowS, castL, Option.bind_some, Option.map_some, Option.some.injEq, Nat.beq_refl, beq_self_eq_true, Bool.and_self, cond_true, cond_false, eq_self, beq_iff_eq, beq_eq_false_iff_ne, bne_iff_ne, bne_eq_false_iff_eq, ne_eq, decide_eq_true_eq, decide_eq_false_iff_not, ble_true, ble_false, inRange_iff, inRange_false, f1, f2, f3, f4, i1, i2, i3, i4]
  have fin : ∀ i, i = K.splitW w → (okO [AT.i IntKind.u32, AT.b] (K.encode i) → ((K.encode i).2 = true → (¬ (K.encode i).1 = w → ((⟨0, 0, 0, 0, 0⟩ : PInstr), false) = K.decode w) ∧ ((K.encode i).1 = w → (i, true) = K.decode w)) ∧ ((K.encode i).2 = false → ((⟨0, 0, 0, 0, 0⟩ : PInstr), false) = K.decode w)) := fun i hi _ => by
    subst hi
    exact ⟨fun a => ⟨fun b => (d2 fun c => b c.2).symm, fun b => (d1 a b).symm⟩, fun a => (d2 fun c => by rw [a] at c; exact absurd c.1 (by simp)).symm⟩
  clear d1 d2 f1 f2 f3 f4 i1 i2 i3 i4
  intro _ _ _ _
  generalize K.form (w / 67108864) = f at *
  rcases hf with rfl | rfl | rfl | rfl | rfl | rfl | rfl | rfl
  all_goals simp
  all_goals first | exact fun _ => by simpa using fin _ (g1 rfl) | exact fun _ => by simpa using fin _ (g2 (by decide)) | trace_state
  
theorem c_isa_Decode : SpecOk EB_0_1 133 S_isa_Decode := spec_sig ok_isa_Decode (n := 60) fun ⟨w, ⟨⟩⟩ h hok => a_isa_Decode w (ok_int (okSL_head hok))
end

/-! isa_IsPrivileged -/

def S_isa_IsPrivileged : Spec := sig [.i .i64] [.b] (fun (op, _) => K.privd op)
noncomputable def E_isa_IsPrivileged : Env := EB.adds []

theorem ok_isa_IsPrivileged : EnvOk E_isa_IsPrivileged := okEB.adds (l := _) trivial
theorem t_isa_IsPrivileged (op : Int) : evF E_isa_IsPrivileged 60 120 (encArgs [.i .i64] (op, ())) = bif (decide (op ≥ (21 : Int))) then (bif (decide (op ≤ (25 : Int))) then (Tree.leaf (SV.b true)) else (Tree.leaf (SV.b false))) else (Tree.leaf (SV.b false)) := by kernel_rfl
section
attribute [local irreducible] evF evFL evFLs
theorem a_isa_IsPrivileged (op : Int) (ok_op : okI .i64 op) : (evF E_isa_IsPrivileged 60 120 (encArgs [.i .i64] (op, ()))).ends fun out_ => decO [.b] out_ = some (K.privd op) := by
  rw [t_isa_IsPrivileged, Tree.ends_holds]
  simp only [Tree.holds_loop, Tree.holds_fork, Tree.holds_next, if_true, Tree.holds_cond, Tree.holds_letv, Tree.holds_leaf, Tree.holds_fail, decO, decA, decTup, decMach, decCore, decTrap, decInstr, decPart, decGuest, decConf, decEvent, decVcpu, decStep, bytesS, boolS, eventsS, intsS, guestsS, vcpusS, rowS, castL, Option.bind_some, Option.map_some, Option.some.injEq, Nat.beq_refl, beq_self_eq_true, Bool.and_self, cond_true, cond_false, eq_self, beq_iff_eq, beq_eq_false_iff_ne, bne_iff_ne, bne_eq_false_iff_eq, ne_eq, decide_eq_true_eq, decide_eq_false_iff_not, ble_true, ble_false, inRange_iff, inRange_false, K.privd]
  repeat' (first | refine drop_ok ?_ | intro _ | with_reducible apply And.intro)
  all_goals (simp_all; try omega)
  
theorem c_isa_IsPrivileged : SpecOk EB 120 S_isa_IsPrivileged := spec_sig ok_isa_IsPrivileged (n := 60) fun ⟨op, ⟨⟩⟩ h hok => a_isa_IsPrivileged op (ok_int (okSL_head hok))
end

/-! trap_IsSupervisor -/

def S_trap_IsSupervisor : Spec := sig [.core] [.b] (fun (c, _) => K.super c)
noncomputable def E_trap_IsSupervisor : Env := EB.adds []

theorem ok_trap_IsSupervisor : EnvOk E_trap_IsSupervisor := okEB.adds (l := _) trivial
theorem t_trap_IsSupervisor (c : PCore) : evF E_trap_IsSupervisor 60 124 (encArgs [.core] (c, ())) = bif (bne (andI IntKind.u32 (List.getD c.csr 0 (0 : Int)) (1 : Int)) (0 : Int)) then (Tree.leaf (SV.b true)) else (Tree.leaf (SV.b false)) := by kernel_rfl
section
attribute [local irreducible] evF evFL evFLs
theorem a_trap_IsSupervisor (c : PCore) (ok_c : okCore c) : (evF E_trap_IsSupervisor 60 124 (encArgs [.core] (c, ()))).ends fun out_ => decO [.b] out_ = some (K.super c) := by
  rw [t_trap_IsSupervisor, Tree.ends_holds]
  obtain ⟨s0, s1⟩ := ok_c.csr.u32 (i := 0) (by omega)
  simp only [Tree.holds_loop, Tree.holds_fork, Tree.holds_next, if_true, Tree.holds_cond, Tree.holds_letv, Tree.holds_leaf, Tree.holds_fail, decO, decA, decTup, decMach, decCore, decTrap, decInstr, decPart, decGuest, decConf, decEvent, decVcpu, decStep, bytesS, boolS, eventsS, intsS, guestsS, vcpusS, rowS, castL, Option.bind_some, Option.map_some, Option.some.injEq, Nat.beq_refl, beq_self_eq_true, Bool.and_self, cond_true, cond_false, eq_self, beq_iff_eq, beq_eq_false_iff_ne, bne_iff_ne, bne_eq_false_iff_eq, ne_eq, decide_eq_true_eq, decide_eq_false_iff_not, ble_true, ble_false, inRange_iff, inRange_false, K.super, and_1 s0 s1]
  repeat' (first | refine drop_ok ?_ | intro _ | with_reducible apply And.intro)
  all_goals (simp_all; try omega)
  
theorem c_trap_IsSupervisor : SpecOk EB 124 S_trap_IsSupervisor := spec_sig ok_trap_IsSupervisor (n := 60) fun ⟨c, ⟨⟩⟩ h hok => a_trap_IsSupervisor c (ok_core (okSL_head hok))
end

/-! step_Current -/

def S_step_Current : Spec := sig [.mach] [.instr, .trap] (fun (m, _) => K.cur m)
noncomputable def E_step_Current : Env := EB_0_1_2.adds [(132, S_fetch_Fetch), (133, S_isa_Decode), (120, S_isa_IsPrivileged), (124, S_trap_IsSupervisor)]

theorem ok_step_Current : EnvOk E_step_Current := okEB_0_1_2.adds (l := _) ⟨(up_2_to_0_1_2 c_fetch_Fetch), (up_0_1_to_0_1_2 c_isa_Decode), (up_to_0_1_2 c_isa_IsPrivileged), (up_to_0_1_2 c_trap_IsSupervisor), trivial⟩
theorem t_step_Current (m : PMach) : evF E_step_Current 60 119 (encArgs [.mach] (m, ())) = Tree.letv (okO [(AT.i IntKind.u32), AT.trap]) (K.load m m.core.pc (4 : Int)) fun x0 => (bif (bne x0.snd.cause (0 : Int)) then (Tree.leaf (SV.tup [(SV.agg [(SV.v (Value.int IntKind.i64 (0 : Int))), (SV.v (Value.int IntKind.i64 (0 : Int))), (SV.v (Value.int IntKind.i64 (0 : Int))), (SV.v (Value.int IntKind.i64 (0 : Int))), (SV.v (Value.int IntKind.i32 (0 : Int)))]), (SV.agg [(SV.v (Value.int IntKind.i64 x0.snd.cause)), (SV.v (Value.int IntKind.u32 x0.snd.tval))])])) else (Tree.letv (okO [AT.instr, AT.b]) (K.decode x0.fst) fun x1 => (bif x1.snd then (Tree.letv (okO [AT.b]) (K.privd x1.fst.op) fun x2 => (bif x2 then (Tree.letv (okO [AT.b]) (K.super m.core) fun x3 => (bif x3 then (Tree.leaf (SV.tup [(SV.agg [(SV.v (Value.int IntKind.i64 x1.fst.op)), (SV.v (Value.int IntKind.i64 x1.fst.rd)), (SV.v (Value.int IntKind.i64 x1.fst.ra)), (SV.v (Value.int IntKind.i64 x1.fst.rb)), (SV.v (Value.int IntKind.i32 x1.fst.imm))]), (SV.agg [(SV.v (Value.int IntKind.i64 (0 : Int))), (SV.v (Value.int IntKind.u32 (0 : Int)))])])) else (Tree.leaf (SV.tup [(SV.agg [(SV.v (Value.int IntKind.i64 (0 : Int))), (SV.v (Value.int IntKind.i64 (0 : Int))), (SV.v (Value.int IntKind.i64 (0 : Int))), (SV.v (Value.int IntKind.i64 (0 : Int))), (SV.v (Value.int IntKind.i32 (0 : Int)))]), (SV.agg [(SV.v (Value.int IntKind.i64 (2 : Int))), (SV.v (Value.int IntKind.u32 x0.fst))])])))) else (Tree.leaf (SV.tup [(SV.agg [(SV.v
 (Value.int IntKind.i64 x1.fst.op)), (SV.v (Value.int IntKind.i64 x1.fst.rd)), (SV.v (Value.int IntKind.i64 x1.fst.ra)), (SV.v (Value.int IntKind.i64 x1.fst.rb)), (SV.v (Value.int IntKind.i32 x1.fst.imm))]), (SV.agg [(SV.v (Value.int IntKind.i64 (0 : Int))), (SV.v (Value.int IntKind.u32 (0 : Int)))])])))) else (Tree.leaf (SV.tup [(SV.agg [(SV.v (Value.int IntKind.i64 (0 : Int))), (SV.v (Value.int IntKind.i64 (0 : Int))), (SV.v (Value.int IntKind.i64 (0 : Int))), (SV.v (Value.int IntKind.i64 (0 : Int))), (SV.v (Value.int IntKind.i32 (0 : Int)))]), (SV.agg [(SV.v (Value.int IntKind.i64 (1 : Int))), (SV.v (Value.int IntKind.u32 x0.fst))])]))))) := by kernel_rfl
section
attribute [local irreducible] evF evFL evFLs
theorem a_step_Current (m : PMach) (ok_m : okMach m) : (evF E_step_Current 60 119 (encArgs [.mach] (m, ()))).ends fun out_ => decO [.instr, .trap] out_ = some (K.cur m) := by
  rw [t_step_Current, Tree.ends_holds]
  simp only [Tree.holds_loop, Tree.holds_fork, Tree.holds_next, if_true, Tree.holds_cond, Tree.holds_letv, Tree.holds_leaf, Tree.holds_fail, decO, decA, decTup, decMach, decCore, decTrap, decInstr, decPart, decGuest, decConf, decEvent, decVcpu, decStep, bytesS, boolS, eventsS, intsS, guestsS, vcpusS, rowS, castL, Option.bind_some, Option.map_some, Option.some.injEq, Nat.beq_refl, beq_self_eq_true, Bool.and_self, cond_true, cond_false, eq_self, beq_iff_eq, beq_eq_false_iff_ne, bne_iff_ne, bne_eq_false_iff_eq, ne_eq, decide_eq_true_eq, decide_eq_false_iff_not, ble_true, ble_false, inRange_iff, inRange_false]
  unfold K.cur
  repeat' (first | refine drop_ok ?_ | intro _ | with_reducible apply And.intro)
  all_goals simp_all
  
theorem c_step_Current : SpecOk EB_0_1_2 119 S_step_Current := spec_sig ok_step_Current (n := 60) fun ⟨m, ⟨⟩⟩ h hok => a_step_Current m (ok_mach (okSL_head hok))
end

/-! regs_Get -/

def S_regs_Get : Spec := sig [.a .u32 16, .i .i64] [.i .u32] (fun (r, i, _) => K.get r i)
noncomputable def E_regs_Get : Env := EB.adds []

theorem ok_regs_Get : EnvOk E_regs_Get := okEB.adds (l := _) trivial
theorem t_regs_Get (r : List Int) (i : Int) : evF E_regs_Get 60 136 (encArgs [.a .u32 16, .i .i64] (r, i, ())) = bif (decide (i > (0 : Int))) then (bif (decide (i < (16 : Int))) then (bif (inRange i 16) then (Tree.leaf (SV.v (Value.int IntKind.u32 (List.getD r ((Int.toNat i)) (0 : Int))))) else (Tree.fail)) else (Tree.leaf (SV.v (Value.int IntKind.u32 (0 : Int))))) else (Tree.leaf (SV.v (Value.int IntKind.u32 (0 : Int)))) := by kernel_rfl
section
attribute [local irreducible] evF evFL evFLs
theorem a_regs_Get (r : List Int) (i : Int) (ok_r : okL .u32 16 r) (ok_i : okI .i64 i) : (evF E_regs_Get 60 136 (encArgs [.a .u32 16, .i .i64] (r, i, ()))).ends fun out_ => decO [.i .u32] out_ = some (K.get r i) := by
  rw [t_regs_Get, Tree.ends_holds]
  simp only [Tree.holds_loop, Tree.holds_fork, Tree.holds_next, if_true, Tree.holds_cond, Tree.holds_letv, Tree.holds_leaf, Tree.holds_fail, decO, decA, decTup, decMach, decCore, decTrap, decInstr, decPart, decGuest, decConf, decEvent, decVcpu, decStep, bytesS, boolS, eventsS, intsS, guestsS, vcpusS, rowS, castL, Option.bind_some, Option.map_some, Option.some.injEq, Nat.beq_refl, beq_self_eq_true, Bool.and_self, cond_true, cond_false, eq_self, K.get]
  grind [inRange]
  
theorem c_regs_Get : SpecOk EB 136 S_regs_Get := spec_sig ok_regs_Get (n := 60) fun ⟨r, i, ⟨⟩⟩ h hok => a_regs_Get r i (ok_arr (okSL_head hok)) (ok_int (okSL_head (okSL_tail hok)))
end

/-! regs_Set -/

def S_regs_Set : Spec := sig [.a .u32 16, .i .i64, .i .u32] [.a .u32 16] (fun (r, i, v, _) => K.put r i v)
noncomputable def E_regs_Set : Env := EB.adds []

theorem ok_regs_Set : EnvOk E_regs_Set := okEB.adds (l := _) trivial
theorem t_regs_Set (r : List Int) (i : Int) (v : Int) : evF E_regs_Set 60 138 (encArgs [.a .u32 16, .i .i64, .i .u32] (r, i, v, ())) = bif (decide (i > (0 : Int))) then (bif (decide (i < (16 : Int))) then (bif (inRange i 16) then (Tree.leaf (SV.agg [(SV.arr IntKind.u32 16 (List.set r ((Int.toNat i)) v))])) else (Tree.fail)) else (Tree.leaf (SV.agg [(SV.arr IntKind.u32 16 r)]))) else (Tree.leaf (SV.agg [(SV.arr IntKind.u32 16 r)])) := by kernel_rfl
section
attribute [local irreducible] evF evFL evFLs
theorem a_regs_Set (r : List Int) (i : Int) (v : Int) (ok_r : okL .u32 16 r) (ok_i : okI .i64 i) (ok_v : okI .u32 v) : (evF E_regs_Set 60 138 (encArgs [.a .u32 16, .i .i64, .i .u32] (r, i, v, ()))).ends fun out_ => decO [.a .u32 16] out_ = some (K.put r i v) := by
  rw [t_regs_Set, Tree.ends_holds]
  simp only [Tree.holds_loop, Tree.holds_fork, Tree.holds_next, if_true, Tree.holds_cond, Tree.holds_letv, Tree.holds_leaf, Tree.holds_fail, decO, decA, decTup, decMach, decCore, decTrap, decInstr, decPart, decGuest, decConf, decEvent, decVcpu, decStep, bytesS, boolS, eventsS, intsS, guestsS, vcpusS, rowS, castL, Option.bind_some, Option.map_some, Option.some.injEq, Nat.beq_refl, beq_self_eq_true, Bool.and_self, cond_true, cond_false, eq_self, K.put]
  grind [inRange]
  
theorem c_regs_Set : SpecOk EB 138 S_regs_Set := spec_sig ok_regs_Set (n := 60) fun ⟨r, i, v, ⟨⟩⟩ h hok => a_regs_Set r i v (ok_arr (okSL_head hok)) (ok_int (okSL_head (okSL_tail hok))) (ok_int (okSL_head (okSL_tail (okSL_tail hok))))
end

/-! trap_Return -/

def S_trap_Return : Spec := sig [.core] [.core] (fun (c, _) => K.ret c)
noncomputable def E_trap_Return : Env := EB.adds []

theorem ok_trap_Return : EnvOk E_trap_Return := okEB.adds (l := _) trivial
theorem t_trap_Return (c : PCore) : evF E_trap_Return 60 137 (encArgs [.core] (c, ())) = bif (bne (andI IntKind.u32 (List.getD c.csr 0 (0 : Int)) (4 : Int)) (0 : Int)) then (bif (bne (andI IntKind.u32 (List.getD c.csr 0 (0 : Int)) (8 : Int)) (0 : Int)) then (Tree.leaf (SV.agg [(SV.arr IntKind.u32 16 c.regs), (SV.v (Value.int IntKind.u32 (List.getD c.csr 1 (0 : Int)))), (SV.arr IntKind.u32 12 (List.set c.csr 0 (orI IntKind.u32 (orI IntKind.u32 (List.getD c.csr 0 (0 : Int)) (1 : Int)) (2 : Int))))])) else (Tree.leaf (SV.agg [(SV.arr IntKind.u32 16 c.regs), (SV.v (Value.int IntKind.u32 (List.getD c.csr 1 (0 : Int)))), (SV.arr IntKind.u32 12 (List.set c.csr 0 (andNotI IntKind.u32 (orI IntKind.u32 (List.getD c.csr 0 (0 : Int)) (1 : Int)) (2 : Int))))]))) else (bif (bne (andI IntKind.u32 (List.getD c.csr 0 (0 : Int)) (8 : Int)) (0 : Int)) then (Tree.leaf (SV.agg [(SV.arr IntKind.u32 16 c.regs), (SV.v (Value.int IntKind.u32 (List.getD c.csr 1 (0 : Int)))), (SV.arr IntKind.u32 12 (List.set c.csr 0 (orI IntKind.u32 (andNotI IntKind.u32 (List.getD c.csr 0 (0 : Int)) (1 : Int)) (2 : Int))))])) else (Tree.leaf (SV.agg [(SV.arr IntKind.u32 16 c.regs), (SV.v (Value.int IntKind.u32 (List.getD c.csr 1 (0 : Int)))), (SV.arr IntKind.u32 12 (List.set c.csr 0 (andNotI IntKind.u32 (andNotI IntKind.u32 (List.getD c.csr 0 (0 : Int)) (1 : Int)) (2 : Int))))]))) := by kernel_rfl
section
attribute [local irreducible] evF evFL evFLs
theorem a_trap_Return (c : PCore) (ok_c : okCore c) : (evF E_trap_Return 60 137 (encArgs [.core] (c, ()))).ends fun out_ => decO [.core] out_ = some (K.ret c) := by
  rw [t_trap_Return, Tree.ends_holds]
  obtain ⟨s0, s1⟩ := ok_c.csr.u32 (i := 0) (by omega)
  simp only [Tree.holds_loop, Tree.holds_fork, Tree.holds_next, if_true, Tree.holds_cond, Tree.holds_letv, Tree.holds_leaf, Tree.holds_fail, decO, decA, decTup, decMach, decCore, decTrap, decInstr, decPart, decGuest, decConf, decEvent, decVcpu, decStep, bytesS, boolS, eventsS, intsS, guestsS, vcpusS, rowS, castL, Option.bind_some, Option.map_some, Option.some.injEq, Nat.beq_refl, beq_self_eq_true, Bool.and_self, cond_true, cond_false, eq_self, K.ret, K.retS]
  generalize c.csr.getD 0 0 = s at *
  simp only [and_4 s0 s1, and_8 s0 s1, or_1 s0 s1, andNot_1 s0 s1]
  have a2 : ∀ x : Int, 0 ≤ x → x < 4294967296 → orI .u32 x 2 = x + 2 * (1 - x / 2 % 2) := fun x h0 h1 => or_2 h0 h1
  have a3 : ∀ x : Int, 0 ≤ x → x < 4294967296 → andNotI .u32 x 2 = x - 2 * (x / 2 % 2) := fun x h0 h1 => andNot_2 h0 h1
  rw [a2 _ (by omega) (by omega), a2 _ (by omega) (by omega), a3 _ (by omega) (by omega), a3 _ (by omega) (by omega)]
  simp only [bne_iff_ne, ne_eq, bne_eq_false_iff_eq]
  refine ⟨fun h1 => ⟨fun h2 => ?_, fun h2 => ?_⟩, fun h1 => ⟨fun h2 => ?_, fun h2 => ?_⟩⟩ <;> (congr 2; omega)
  
theorem c_trap_Return : SpecOk EB 137 S_trap_Return := spec_sig ok_trap_Return (n := 60) fun ⟨c, ⟨⟩⟩ h hok => a_trap_Return c (ok_core (okSL_head hok))
end

/-! csr_Read -/

def S_csr_Read : Spec := sig [.a .u32 12, .i .u64, .i .i64] [.i .u32] (fun (c, time, n, _) => K.csrRead c time n)
noncomputable def E_csr_Read : Env := EB.adds []

theorem ok_csr_Read : EnvOk E_csr_Read := okEB.adds (l := _) trivial
theorem t_csr_Read (c : List Int) (time : Int) (n : Int) : evF E_csr_Read 60 139 (encArgs [.a .u32 12, .i .u64, .i .i64] (c, time, n, ())) = bif (BEq.beq n (7 : Int)) then (Tree.leaf (SV.v (Value.int IntKind.u32 (IntKind.wrap IntKind.u32 time)))) else (bif (BEq.beq n (8 : Int)) then (Tree.leaf (SV.v (Value.int IntKind.u32 (IntKind.wrap IntKind.u32 (Int.fdiv time (4294967296 : Int)))))) else (bif (decide (n ≥ (0 : Int))) then (bif (decide (n < (12 : Int))) then (bif (inRange n 12) then (Tree.leaf (SV.v (Value.int IntKind.u32 (List.getD c ((Int.toNat n)) (0 : Int))))) else (Tree.fail)) else (Tree.leaf (SV.v (Value.int IntKind.u32 (0 : Int))))) else (Tree.leaf (SV.v (Value.int IntKind.u32 (0 : Int)))))) := by kernel_rfl
section
attribute [local irreducible] evF evFL evFLs
theorem a_csr_Read (c : List Int) (time : Int) (n : Int) (ok_c : okL .u32 12 c) (ok_time : okI .u64 time) (ok_n : okI .i64 n) : (evF E_csr_Read 60 139 (encArgs [.a .u32 12, .i .u64, .i .i64] (c, time, n, ()))).ends fun out_ => decO [.i .u32] out_ = some (K.csrRead c time n) := by
  rw [t_csr_Read, Tree.ends_holds]
  obtain ⟨t0, t1⟩ := okI_u64 ok_time
  have e1 : IntKind.u32.wrap (Int.fdiv time 4294967296) = time / 4294967296 := by rw [Int.fdiv_eq_ediv_of_nonneg _ (by omega), wrap32]; omega
  simp only [Tree.holds_loop, Tree.holds_fork, Tree.holds_next, if_true, Tree.holds_cond, Tree.holds_letv, Tree.holds_leaf, Tree.holds_fail, decO, decA, decTup, decMach, decCore, decTrap, decInstr, decPart, decGuest, decConf, decEvent, decVcpu, decStep, bytesS, boolS, eventsS, intsS, guestsS, vcpusS, rowS, castL, Option.bind_some, Option.map_some, Option.some.injEq, Nat.beq_refl, beq_self_eq_true, Bool.and_self, cond_true, cond_false, eq_self, K.csrRead, e1, wrap32]
  grind [inRange]
  
theorem c_csr_Read : SpecOk EB 139 S_csr_Read := spec_sig ok_csr_Read (n := 60) fun ⟨c, time, n, ⟨⟩⟩ h hok => a_csr_Read c time n (ok_arr (okSL_head hok)) (ok_int (okSL_head (okSL_tail hok))) (ok_int (okSL_head (okSL_tail (okSL_tail hok))))
end

/-! csr_masks -/

def S_csr_masks : Spec := sig [] [.a .u32 12] (fun _ => K.mk)
noncomputable def E_csr_masks : Env := EB.adds []

theorem ok_csr_masks : EnvOk E_csr_masks := okEB.adds (l := _) trivial
theorem t_csr_masks : evF E_csr_masks 60 160 (encArgs [] ()) = Tree.leaf (SV.agg [(SV.arr IntKind.u32 12 [(14 : Int), (4294967292 : Int), (4294967295 : Int), (4294967295 : Int), (4294967292 : Int), (4294967292 : Int), (4294967295 : Int), (0 : Int), (0 : Int), (4294967295 : Int), (4294967295 : Int), (4294967295 : Int)])]) := by kernel_rfl
section
attribute [local irreducible] evF evFL evFLs
theorem a_csr_masks : (evF E_csr_masks 60 160 (encArgs [] ())).ends fun out_ => decO [.a .u32 12] out_ = some (K.mk) := by
  rw [t_csr_masks, Tree.ends_holds]
  rfl
  
theorem c_csr_masks : SpecOk EB 160 S_csr_masks := spec_sig ok_csr_masks (n := 60) fun () h hok => a_csr_masks 
end

/-! csr_Write -/

def S_csr_Write : Spec := sig [.a .u32 12, .i .i64, .i .u32] [.a .u32 12] (fun (c, n, v, _) => K.csrWrite c n v)
noncomputable def E_csr_Write : Env := EB.adds [(160, S_csr_masks)]

theorem ok_csr_Write : EnvOk E_csr_Write := okEB.adds (l := _) ⟨c_csr_masks, trivial⟩
theorem t_csr_Write (c : List Int) (n : Int) (v : Int) : evF E_csr_Write 60 140 (encArgs [.a .u32 12, .i .i64, .i .u32] (c, n, v, ())) = bif (decide (n ≥ (0 : Int))) then (bif (decide (n < (12 : Int))) then (bif (inRange n 12) then (Tree.letv (okO [(AT.a IntKind.u32 12)]) K.mk fun x0 => (bif (inRange n 12) then (Tree.letv (okO [(AT.a IntKind.u32 12)]) K.mk fun x1 => (bif (inRange n 12) then (bif (inRange n 12) then (Tree.leaf (SV.agg [(SV.arr IntKind.u32 12 (List.set c ((Int.toNat n)) (orI IntKind.u32 (andNotI IntKind.u32 (List.getD c ((Int.toNat n)) (0 : Int)) (List.getD x0 ((Int.toNat n)) (0 : Int))) (andI IntKind.u32 v (List.getD x1 ((Int.toNat n)) (0 : Int))))))])) else (Tree.fail)) else (Tree.fail))) else (Tree.fail))) else (Tree.fail)) else (Tree.leaf (SV.agg [(SV.arr IntKind.u32 12 c)]))) else (Tree.leaf (SV.agg [(SV.arr IntKind.u32 12 c)])) := by kernel_rfl
section
attribute [local irreducible] evF evFL evFLs
theorem a_csr_Write (c : List Int) (n : Int) (v : Int) (ok_c : okL .u32 12 c) (ok_n : okI .i64 n) (ok_v : okI .u32 v) : (evF E_csr_Write 60 140 (encArgs [.a .u32 12, .i .i64, .i .u32] (c, n, v, ()))).ends fun out_ => decO [.a .u32 12] out_ = some (K.csrWrite c n v) := by
  rw [t_csr_Write, Tree.ends_holds]
  simp only [Tree.holds_loop, Tree.holds_fork, Tree.holds_next, if_true, Tree.holds_cond, Tree.holds_letv, Tree.holds_leaf, Tree.holds_fail, decO, decA, decTup, decMach, decCore, decTrap, decInstr, decPart, decGuest, decConf, decEvent, decVcpu, decStep, bytesS, boolS, eventsS, intsS, guestsS, vcpusS, rowS, castL, Option.bind_some, Option.map_some, Option.some.injEq, Nat.beq_refl, beq_self_eq_true, Bool.and_self, cond_true, cond_false, eq_self, K.csrWrite, K.mix]
  by_cases hn : 0 ≤ n ∧ n < 12
  · simp only [hn.1, hn.2, inRange_iff.2 (show 0 ≤ n ∧ n < ((12 : Nat) : Int) from hn), ge_iff_le, decide_true, and_self, if_true]; simp
  · simp only [if_neg hn, inRange_iff]
    refine ⟨fun h1 => ⟨fun h2 => absurd ⟨by simpa using h1, by simpa using h2⟩ hn, fun _ => trivial⟩, fun _ => trivial⟩
  
theorem c_csr_Write : SpecOk EB 140 S_csr_Write := spec_sig ok_csr_Write (n := 60) fun ⟨c, n, v, ⟨⟩⟩ h hok => a_csr_Write c n v (ok_arr (okSL_head hok)) (ok_int (okSL_head (okSL_tail hok))) (ok_int (okSL_head (okSL_tail (okSL_tail hok))))
end

/-! priv_Execute -/

def S_priv_Execute : Spec := sig [.mach, .instr] [.mach] (fun (m, i, _) => K.priv m i) (pre := fun (m, i, _) => decide (m.out.length ≤ 1099511627776))
noncomputable def E_priv_Execute : Env := EB.adds [(136, S_regs_Get), (138, S_regs_Set), (137, S_trap_Return), (139, S_csr_Read), (140, S_csr_Write)]

theorem ok_priv_Execute : EnvOk E_priv_Execute := okEB.adds (l := _) ⟨c_regs_Get, c_regs_Set, c_trap_Return, c_csr_Read, c_csr_Write, trivial⟩
theorem t_priv_Execute (m : PMach) (i : PInstr) : evF E_priv_Execute 60 121 (encArgs [.mach, .instr] (m, i, ())) = Tree.letv (okO [(AT.i IntKind.u32)]) (K.get m.core.regs i.ra) fun x0 => (bif (BEq.beq i.op (23 : Int)) then (Tree.letv (okO [AT.core]) (K.ret m.core) fun x1 => (Tree.leaf (SV.agg [(SV.arr IntKind.u32 16 x1.regs), (SV.v (Value.int IntKind.u32 x1.pc)), (SV.arr IntKind.u32 12 x1.csr), (SV.rd ETy.u8 m.mem), (SV.v (Value.int IntKind.u64 m.time)), (SV.rd ETy.u8 m.out), (SV.v (Value.bool m.halted))]))) else (bif (BEq.beq i.op (21 : Int)) then (Tree.letv (okO [(AT.i IntKind.u32)]) (K.csrRead m.core.csr m.time (IntKind.wrap IntKind.i64 i.imm)) fun x1 => (Tree.letv (okO [(AT.a IntKind.u32 16)]) (K.put m.core.regs i.rd x1) fun x2 => (Tree.leaf (SV.agg [(SV.arr IntKind.u32 16 x2), (SV.v (Value.int IntKind.u32 (IntKind.wrap IntKind.u32 (m.core.pc + (4 : Int))))), (SV.arr IntKind.u32 12 m.core.csr), (SV.rd ETy.u8 m.mem), (SV.v (Value.int IntKind.u64 m.time)), (SV.rd ETy.u8 m.out), (SV.v (Value.bool m.halted))])))) else (bif (BEq.beq i.op (22 : Int)) then (Tree.letv (okO [(AT.a IntKind.u32 12)]) (K.csrWrite m.core.csr (IntKind.wrap IntKind.i64 i.imm) x0) fun x1 => (Tree.leaf (SV.agg [(SV.arr IntKind.u32 16 m.core.regs), (SV.v (Value.int IntKind.u32 (IntKind.wrap IntKind.u32 (m.core.pc + (4 : Int))))), (SV.arr IntKind.u32 12 x1), (SV.rd ETy.u8 m.mem), (SV.v (Value.int IntKind.u64 m.time)), (SV.rd ETy.u8 m.out), (SV.v (Value.bool m.halted))]))) else (bif (BEq.beq i.op (24 : Int))
 then (Tree.leaf (SV.agg [(SV.arr IntKind.u32 16 m.core.regs), (SV.v (Value.int IntKind.u32 (IntKind.wrap IntKind.u32 (m.core.pc + (4 : Int))))), (SV.arr IntKind.u32 12 m.core.csr), (SV.rd ETy.u8 m.mem), (SV.v (Value.int IntKind.u64 m.time)), (SV.rd ETy.u8 m.out), (SV.b true)])) else (bif (BEq.beq i.op (25 : Int)) then (bif (Bool.and (decide ((0 : Int) ≤ (Int.ofNat (List.length m.out)))) (Bool.and (decide ((Int.ofNat (List.length m.out)) ≤ (Int.ofNat (List.length m.out)))) (decide ((Int.ofNat (List.length m.out)) = (Int.ofNat (List.length m.out)))))) then (bif (Nat.ble (((List.length (List.drop 0 (List.take (Int.toNat (Int.ofNat (List.length m.out))) m.out))) + 1) * 1) 140737488355328) then (Tree.leaf (SV.agg [(SV.arr IntKind.u32 16 m.core.regs), (SV.v (Value.int IntKind.u32 (IntKind.wrap IntKind.u32 (m.core.pc + (4 : Int))))), (SV.arr IntKind.u32 12 m.core.csr), (SV.rd ETy.u8 m.mem), (SV.v (Value.int IntKind.u64 m.time)), (SV.rd ETy.u8 (List.append (List.drop 0 (List.take (Int.toNat (Int.ofNat (List.length m.out))) m.out)) [(IntKind.wrap IntKind.u8 x0)])), (SV.v (Value.bool m.halted))])) else (Tree.fail)) else (Tree.fail)) else (Tree.leaf (SV.agg [(SV.arr IntKind.u32 16 m.core.regs), (SV.v (Value.int IntKind.u32 (IntKind.wrap IntKind.u32 (m.core.pc + (4 : Int))))), (SV.arr IntKind.u32 12 m.core.csr), (SV.rd ETy.u8 m.mem), (SV.v (Value.int IntKind.u64 m.time)), (SV.rd ETy.u8 m.out), (SV.v (Value.bool m.halted))]))))))) := by kernel_rfl
section
attribute [local irreducible] evF evFL evFLs
theorem a_priv_Execute (m : PMach) (i : PInstr) (hpre : m.out.length ≤ 1099511627776) (ok_m : okMach m) (ok_i : okInstr i) : (evF E_priv_Execute 60 121 (encArgs [.mach, .instr] (m, i, ()))).ends fun out_ => decO [.mach] out_ = some (K.priv m i) := by
  rw [t_priv_Execute, Tree.ends_holds]
  obtain ⟨a, b⟩ := okI_i32 ok_i.imm
  have e1 : IntKind.i64.wrap i.imm = i.imm := wrapI64 (by omega) (by omega)
  obtain ⟨g0, g1⟩ := K.get_ok ok_m.core.regs i.ra
  have e2 : Int.tmod (K.get m.core.regs i.ra) 256 = K.get m.core.regs i.ra % 256 := Int.tmod_eq_emod_of_nonneg g0
  simp only [Tree.holds_loop, Tree.holds_fork, Tree.holds_next, if_true, Tree.holds_cond, Tree.holds_letv, Tree.holds_leaf, Tree.holds_fail, decO, decA, decTup, decMach, decCore, decTrap, decInstr, decPart, decGuest, decConf, decEvent, decVcpu, decStep, bytesS, boolS, eventsS, intsS, guestsS, vcpusS, rowS, castL, Option.bind_some, Option.map_some, Option.some.injEq, Nat.beq_refl, beq_self_eq_true, Bool.and_self, cond_true, cond_false, eq_self, e1, e2, wrap8, wrap32, beq_iff_eq, beq_eq_false_iff_ne, bne_iff_ne, bne_eq_false_iff_eq, ne_eq, decide_eq_true_eq, decide_eq_false_iff_not, ble_true, ble_false, inRange_iff, inRange_false, List.drop_zero, Int.ofNat_eq_natCast, Int.toNat_natCast, List.take_length, List.append_eq, Bool.and_eq_true, decide_true, and_true, true_and, Int.emod_emod]
  repeat' (first | refine drop_ok ?_ | intro _ | with_reducible apply And.intro)
  all_goals first | omega | (simp_all [K.priv, K.adv]; done) | skip
  
theorem c_priv_Execute : SpecOk EB 121 S_priv_Execute := spec_sig ok_priv_Execute (n := 60) fun ⟨m, i, ⟨⟩⟩ h hok => a_priv_Execute m i (of_decide_eq_true h) (ok_mach (okSL_head hok)) (ok_instr (okSL_head (okSL_tail hok)))
end

/-! exec_Advance -/

def S_exec_Advance : Spec := sig [.core, .i .u32] [.core] (fun (c, by_, _) => { regs := c.regs, pc := (c.pc + by_) % 4294967296, csr := c.csr })
noncomputable def E_exec_Advance : Env := EB.adds []

theorem ok_exec_Advance : EnvOk E_exec_Advance := okEB.adds (l := _) trivial
theorem t_exec_Advance (c : PCore) (by_ : Int) : evF E_exec_Advance 60 141 (encArgs [.core, .i .u32] (c, by_, ())) = Tree.leaf (SV.agg [(SV.arr IntKind.u32 16 c.regs), (SV.v (Value.int IntKind.u32 (IntKind.wrap IntKind.u32 (c.pc + by_)))), (SV.arr IntKind.u32 12 c.csr)]) := by kernel_rfl
section
attribute [local irreducible] evF evFL evFLs
theorem a_exec_Advance (c : PCore) (by_ : Int) (ok_c : okCore c) (ok_by_ : okI .u32 by_) : (evF E_exec_Advance 60 141 (encArgs [.core, .i .u32] (c, by_, ()))).ends fun out_ => decO [.core] out_ = some ({ regs := c.regs, pc := (c.pc + by_) % 4294967296, csr := c.csr }) := by
  rw [t_exec_Advance, Tree.ends_holds]
  simp only [Tree.holds_loop, Tree.holds_fork, Tree.holds_next, if_true, Tree.holds_cond, Tree.holds_letv, Tree.holds_leaf, Tree.holds_fail, decO, decA, decTup, decMach, decCore, decTrap, decInstr, decPart, decGuest, decConf, decEvent, decVcpu, decStep, bytesS, boolS, eventsS, intsS, guestsS, vcpusS, rowS, castL, Option.bind_some, Option.map_some, Option.some.injEq, Nat.beq_refl, beq_self_eq_true, Bool.and_self, cond_true, cond_false, eq_self, wrap32]
  
theorem c_exec_Advance : SpecOk EB 141 S_exec_Advance := spec_sig ok_exec_Advance (n := 60) fun ⟨c, by_, ⟨⟩⟩ h hok => a_exec_Advance c by_ (ok_core (okSL_head hok)) (ok_int (okSL_head (okSL_tail hok)))
end

/-! alu_LessSigned -/

def S_alu_LessSigned : Spec := sig [.i .u32, .i .u32] [.b] (fun (x, y, _) => decide (K.sgn x < K.sgn y))
noncomputable def E_alu_LessSigned : Env := EB.adds []

theorem ok_alu_LessSigned : EnvOk E_alu_LessSigned := okEB.adds (l := _) trivial
theorem t_alu_LessSigned (x : Int) (y : Int) : evF E_alu_LessSigned 60 175 (encArgs [.i .u32, .i .u32] (x, y, ())) = bif (decide ((IntKind.wrap IntKind.i32 x) < (IntKind.wrap IntKind.i32 y))) then (Tree.leaf (SV.b true)) else (Tree.leaf (SV.b false)) := by kernel_rfl
section
attribute [local irreducible] evF evFL evFLs
theorem a_alu_LessSigned (x : Int) (y : Int) (ok_x : okI .u32 x) (ok_y : okI .u32 y) : (evF E_alu_LessSigned 60 175 (encArgs [.i .u32, .i .u32] (x, y, ()))).ends fun out_ => decO [.b] out_ = some (decide (K.sgn x < K.sgn y)) := by
  rw [t_alu_LessSigned, Tree.ends_holds]
  obtain ⟨x0, x1⟩ := okI_u32 ok_x
  obtain ⟨y0, y1⟩ := okI_u32 ok_y
  have e : ∀ z : Int, 0 ≤ z → z < 4294967296 → IntKind.i32.wrap z = K.sgn z := fun z h0 h1 => by
    unfold K.sgn
    simp only [IntKind.wrap, IntKind.bits, IntKind.signed, Bool.true_and, decide_eq_true_eq, Nat.reduceSub, Int.reducePow, ge_iff_le]
    (repeat' split) <;> omega
  simp only [Tree.holds_loop, Tree.holds_fork, Tree.holds_next, if_true, Tree.holds_cond, Tree.holds_letv, Tree.holds_leaf, Tree.holds_fail, decO, decA, decTup, decMach, decCore, decTrap, decInstr, decPart, decGuest, decConf, decEvent, decVcpu, decStep, bytesS, boolS, eventsS, intsS, guestsS, vcpusS, rowS, castL, Option.bind_some, Option.map_some, Option.some.injEq, Nat.beq_refl, beq_self_eq_true, Bool.and_self, cond_true, cond_false, eq_self, beq_iff_eq, beq_eq_false_iff_ne, bne_iff_ne, bne_eq_false_iff_eq, ne_eq, decide_eq_true_eq, decide_eq_false_iff_not, ble_true, ble_false, inRange_iff, inRange_false, e x x0 x1, e y y0 y1]
  repeat' (first | refine drop_ok ?_ | intro _ | with_reducible apply And.intro)
  all_goals simp_all
  
theorem c_alu_LessSigned : SpecOk EB 175 S_alu_LessSigned := spec_sig ok_alu_LessSigned (n := 60) fun ⟨x, y, ⟨⟩⟩ h hok => a_alu_LessSigned x y (ok_int (okSL_head hok)) (ok_int (okSL_head (okSL_tail hok)))
end

/-! alu_Eval -/

def S_alu_Eval : Spec := sig [.i .i64, .i .u32, .i .u32] [.i .u32] (fun (op, x, y, _) => K.alu op x y)
noncomputable def E_alu_Eval : Env := EB.adds [(175, S_alu_LessSigned)]

theorem ok_alu_Eval : EnvOk E_alu_Eval := okEB.adds (l := _) ⟨c_alu_LessSigned, trivial⟩
theorem t_alu_Eval (op : Int) (x : Int) (y : Int) : evF E_alu_Eval 60 167 (encArgs [.i .i64, .i .u32, .i .u32] (op, x, y, ())) = bif (BEq.beq op (1 : Int)) then (Tree.leaf (SV.v (Value.int IntKind.u32 (IntKind.wrap IntKind.u32 (x + y))))) else (bif (BEq.beq op (2 : Int)) then (Tree.leaf (SV.v (Value.int IntKind.u32 (IntKind.wrap IntKind.u32 (x - y))))) else (bif (BEq.beq op (3 : Int)) then (Tree.leaf (SV.v (Value.int IntKind.u32 (andI IntKind.u32 x y)))) else (bif (BEq.beq op (4 : Int)) then (Tree.leaf (SV.v (Value.int IntKind.u32 (orI IntKind.u32 x y)))) else (bif (BEq.beq op (5 : Int)) then (Tree.leaf (SV.v (Value.int IntKind.u32 (xorI IntKind.u32 x y)))) else (bif (BEq.beq op (6 : Int)) then (Tree.letv (okO [AT.b]) (decide ((K.sgn x) < (K.sgn y))) fun x0 => (bif x0 then (Tree.leaf (SV.v (Value.int IntKind.u32 (1 : Int)))) else (Tree.leaf (SV.v (Value.int IntKind.u32 (0 : Int)))))) else (bif (BEq.beq op (7 : Int)) then (bif (decide ((0 : Int) ≤ (andI IntKind.u32 y (31 : Int)))) then (Tree.leaf (SV.v (Value.int IntKind.u32 (IntKind.wrap IntKind.u32 (x * ((2 : Int) ^ (if ((Int.toNat (andI IntKind.u32 y (31 : Int))) ≤ 32) then (Int.toNat (andI IntKind.u32 y (31 : Int))) else 32))))))) else (Tree.fail)) else (bif (BEq.beq op (8 : Int)) then (bif (decide ((0 : Int) ≤ (andI IntKind.u32 y (31 : Int)))) then (Tree.leaf (SV.v (Value.int IntKind.u32 (Int.fdiv x ((2 : Int) ^ (if ((Int.toNat (andI IntKind.u32 y (31 : Int))) ≤ 32) then (Int.toNat (andI IntKind.u32 y (31 : Int))) else
 32)))))) else (Tree.fail)) else (Tree.leaf (SV.v (Value.int IntKind.u32 (0 : Int))))))))))) := by kernel_rfl
section
attribute [local irreducible] evF evFL evFLs
theorem a_alu_Eval (op : Int) (x : Int) (y : Int) (ok_op : okI .i64 op) (ok_x : okI .u32 x) (ok_y : okI .u32 y) : (evF E_alu_Eval 60 167 (encArgs [.i .i64, .i .u32, .i .u32] (op, x, y, ()))).ends fun out_ => decO [.i .u32] out_ = some (K.alu op x y) := by
  rw [t_alu_Eval, Tree.ends_holds]
  obtain ⟨x0, x1⟩ := okI_u32 ok_x
  obtain ⟨y0, y1⟩ := okI_u32 ok_y
  have a31 : andI .u32 y 31 = y % 32 := by have := and_low32 5 (by omega) y0 y1; simpa using this
  have hle : (y % 32).toNat ≤ 32 := by omega
  have e7 : x * 2 ^ (y % 32).toNat = x * K.pow (y % 32) := by unfold K.pow; simp
  have e8 : x.fdiv (2 ^ (y % 32).toNat) = x / K.pow (y % 32) := by
    rw [Int.fdiv_eq_ediv_of_nonneg _ (Int.le_of_lt (Int.pow_pos (by omega)))]; unfold K.pow; simp
  simp only [Tree.holds_loop, Tree.holds_fork, Tree.holds_next, if_true, Tree.holds_cond, Tree.holds_letv, Tree.holds_leaf, Tree.holds_fail, decO, decA, decTup, decMach, decCore, decTrap, decInstr, decPart, decGuest, decConf, decEvent, decVcpu, decStep, bytesS, boolS, eventsS, intsS, guestsS, vcpusS, rowS, castL, Option.bind_some, Option.map_some, Option.some.injEq, Nat.beq_refl, beq_self_eq_true, Bool.and_self, cond_true, cond_false, eq_self, beq_iff_eq, beq_eq_false_iff_ne, bne_iff_ne, bne_eq_false_iff_eq, ne_eq, decide_eq_true_eq, decide_eq_false_iff_not, ble_true, ble_false, inRange_iff, inRange_false, wrap32, a31, if_pos hle, e7, e8]
  repeat' (first | refine drop_ok ?_ | intro _ | with_reducible apply And.intro)
  all_goals first | omega | (subst_vars; simp_all [K.alu]; done) | (simp_all [K.alu]; done)
  
theorem c_alu_Eval : SpecOk EB 167 S_alu_Eval := spec_sig ok_alu_Eval (n := 60) fun ⟨op, x, y, ⟨⟩⟩ h hok => a_alu_Eval op x y (ok_int (okSL_head hok)) (ok_int (okSL_head (okSL_tail hok))) (ok_int (okSL_head (okSL_tail (okSL_tail hok))))
end

/-! alu_BranchTaken -/

def S_alu_BranchTaken : Spec := sig [.i .i64, .i .u32, .i .u32] [.b] (fun (op, x, y, _) => K.taken op x y)
noncomputable def E_alu_BranchTaken : Env := EB.adds [(175, S_alu_LessSigned)]

theorem ok_alu_BranchTaken : EnvOk E_alu_BranchTaken := okEB.adds (l := _) ⟨c_alu_LessSigned, trivial⟩
theorem t_alu_BranchTaken (op : Int) (x : Int) (y : Int) : evF E_alu_BranchTaken 60 165 (encArgs [.i .i64, .i .u32, .i .u32] (op, x, y, ())) = bif (BEq.beq op (15 : Int)) then (bif (BEq.beq x y) then (Tree.leaf (SV.b true)) else (Tree.leaf (SV.b false))) else (bif (BEq.beq op (16 : Int)) then (bif (bne x y) then (Tree.leaf (SV.b true)) else (Tree.leaf (SV.b false))) else (bif (BEq.beq op (17 : Int)) then (Tree.letv (okO [AT.b]) (decide ((K.sgn x) < (K.sgn y))) fun x0 => (bif x0 then (Tree.leaf (SV.b true)) else (Tree.leaf (SV.b false)))) else (Tree.leaf (SV.b false)))) := by kernel_rfl
section
attribute [local irreducible] evF evFL evFLs
theorem a_alu_BranchTaken (op : Int) (x : Int) (y : Int) (ok_op : okI .i64 op) (ok_x : okI .u32 x) (ok_y : okI .u32 y) : (evF E_alu_BranchTaken 60 165 (encArgs [.i .i64, .i .u32, .i .u32] (op, x, y, ()))).ends fun out_ => decO [.b] out_ = some (K.taken op x y) := by
  rw [t_alu_BranchTaken, Tree.ends_holds]
  simp only [Tree.holds_loop, Tree.holds_fork, Tree.holds_next, if_true, Tree.holds_cond, Tree.holds_letv, Tree.holds_leaf, Tree.holds_fail, decO, decA, decTup, decMach, decCore, decTrap, decInstr, decPart, decGuest, decConf, decEvent, decVcpu, decStep, bytesS, boolS, eventsS, intsS, guestsS, vcpusS, rowS, castL, Option.bind_some, Option.map_some, Option.some.injEq, Nat.beq_refl, beq_self_eq_true, Bool.and_self, cond_true, cond_false, eq_self, beq_iff_eq, beq_eq_false_iff_ne, bne_iff_ne, bne_eq_false_iff_eq, ne_eq, decide_eq_true_eq, decide_eq_false_iff_not, ble_true, ble_false, inRange_iff, inRange_false, K.taken]
  repeat' (first | refine drop_ok ?_ | intro _ | with_reducible apply And.intro)
  all_goals simp_all
  
theorem c_alu_BranchTaken : SpecOk EB 165 S_alu_BranchTaken := spec_sig ok_alu_BranchTaken (n := 60) fun ⟨op, x, y, ⟨⟩⟩ h hok => a_alu_BranchTaken op x y (ok_int (okSL_head hok)) (ok_int (okSL_head (okSL_tail hok))) (ok_int (okSL_head (okSL_tail (okSL_tail hok))))
end

/-! mem_Store -/

def S_mem_Store : Spec := sig [.rd .u8, .i .u32, .i .i64, .i .u32] [.rd .u8, .b] (fun (m, a, n, v, _) => if K.inR m.length a n = true then (K.st m a n v, true) else (m, false)) (pre := fun (m, a, n, v, _) => decide ((n = 1 ∨ n = 4) ∧ m.length ≤ 1099511627776))
noncomputable def E_mem_Store : Env := EB.adds [(178, S_mem_InRange)]

theorem ok_mem_Store : EnvOk E_mem_Store := okEB.adds (l := _) ⟨c_mem_InRange, trivial⟩
theorem t1_c_mem_Store (m : List Int) (a v : Int) : evF E_mem_Store 60 174 [.rd .u8 m, .v (.int .u32 a), .v (.int .i64 1), .v (.int .u32 v)] = 
  bif (decide (And ((0 : Int) ≤ (1 : Int)) (And ((1 : Int) ≤ (1099511627776 : Int)) ((0 : Int) ≤ (Int.ofNat (List.length m)))))) then
    (Tree.letv (okO [AT.b]) (K.inR (Int.ofNat (List.length m)) a (1 : Int)) fun x0 =>
    (bif x0 then
      (bif (Nat.beq (List.length m) 0) then
        (Tree.fork
          (Tree.fail)
          (bif (Bool.or (Bool.not (Nat.beq (List.length m) 0)) true) then
            (bif (Nat.ble ((0 + (List.length m)) * 1) 140737488355328) then
              (bif (inRange (IntKind.wrap IntKind.i64 ((IntKind.wrap IntKind.i64 a) + (0 : Int))) (List.length m)) then
                (Tree.leaf (SV.tup [(SV.rd ETy.u8 (List.set m (Int.toNat (IntKind.wrap IntKind.i64 ((IntKind.wrap IntKind.i64 a) + (0 : Int)))) (IntKind.wrap IntKind.u8 (Int.fdiv v (1 : Int))))), (SV.b true)]))
              else
                (Tree.fail))
            else
              (Tree.fail))
          else
            (Tree.fail)))
      else
        (bif (Bool.or (Bool.not (Nat.beq (List.length m) 0)) true) then
          (bif (Nat.ble ((0 + (List.length m)) * 1) 140737488355328) then
            (bif (inRange (IntKind.wrap IntKind.i64 ((IntKind.wrap IntKind.i64 a) + (0 : Int))) (List.length m)) then
              (Tree.leaf (SV.tup [(SV.rd ETy.u8 (List.set m (Int.toNat (IntKind.wrap IntKind.i64 ((IntKind.wrap IntKind.i64 a) + (0 : Int)))) (IntKind.wrap IntKind.u8 (Int.fdiv v (1 : Int))))), (SV.b true)]))
            else
              (Tree.fail))
          else
            (Tree.fail))
        else
          (Tree.fail)))
    else
      (Tree.leaf (SV.tup [(SV.rd ETy.u8 m), (SV.b false)]))))
  else
    (Tree.fail) := by kernel_rfl
theorem t4_c_mem_Store (m : List Int) (a v : Int) : evF E_mem_Store 60 174 [.rd .u8 m, .v (.int .u32 a), .v (.int .i64 4), .v (.int .u32 v)] = 
  bif (decide (And ((0 : Int) ≤ (4 : Int)) (And ((4 : Int) ≤ (1099511627776 : Int)) ((0 : Int) ≤ (Int.ofNat (List.length m)))))) then
    (Tree.letv (okO [AT.b]) (K.inR (Int.ofNat (List.length m)) a (4 : Int)) fun x0 =>
    (bif x0 then
      (bif (Nat.beq (List.length m) 0) then
        (Tree.fork
          (Tree.fail)
          (bif (Bool.or (Bool.not (Nat.beq (List.length m) 0)) true) then
            (bif (Nat.ble ((0 + (List.length m)) * 1) 140737488355328) then
              (bif (inRange (IntKind.wrap IntKind.i64 ((IntKind.wrap IntKind.i64 a) + (0 : Int))) (List.length m)) then
                (bif (inRange (IntKind.wrap IntKind.i64 ((IntKind.wrap IntKind.i64 a) + (1 : Int))) (List.length (List.set m (Int.toNat (IntKind.wrap IntKind.i64 ((IntKind.wrap IntKind.i64 a) + (0 : Int)))) (IntKind.wrap IntKind.u8 (Int.fdiv v (1 : Int)))))) then
                  (bif (inRange (IntKind.wrap IntKind.i64 ((IntKind.wrap IntKind.i64 a) + (2 : Int))) (List.length (List.set (List.set m (Int.toNat (IntKind.wrap IntKind.i64 ((IntKind.wrap IntKind.i64 a) + (0 : Int)))) (IntKind.wrap IntKind.u8 (Int.fdiv v (1 : Int)))) (Int.toNat (IntKind.wrap IntKind.i64 ((IntKind.wrap IntKind.i64 a) + (1 : Int)))) (IntKind.wrap IntKind.u8 (Int.fdiv v (256 : Int)))))) then
                    (bif (inRange (IntKind.wrap IntKind.i64 ((IntKind.wrap IntKind.i64 a) + (3 : Int))) (List.length (List.set (List.set (List.set m (Int.toNat (IntKind.wrap IntKind.i64 ((IntKind.wrap IntKind.i64 a) + (0 : Int)))) (IntKind.wrap IntKind.u8 (Int.fdiv v (1 : Int)))) (Int.toNat (IntKind.wrap IntKind.i64 ((IntKind.wrap IntKind.i64 a) + (1 : Int)))) (IntKind.wrap IntKind.u8 (Int.fdiv v (256 : Int)))) (Int.toNat (IntKind.wrap IntKind.i64 ((IntKind.wrap IntKind.i64 a) + (2 : Int)))) (IntKind.wrap IntKind.u8 (Int.fdiv v (65536 : Int)))))) then
                      (Tree.leaf (SV.tup [(SV.rd ETy.u8 (List.set (List.set (List.set (List.set m (Int.toNat (IntKind.wrap IntKind.i64 ((IntKind.wrap IntKind.i64 a) + (0 : Int)))) (IntKind.wrap IntKind.u8 (Int.fdiv v (1 : Int)))) (Int.toNat (IntKind.wrap IntKind.i64 ((IntKind.wrap IntKind.i64 a) + (1 : Int)))) (IntKind.wrap IntKind.u8 (Int.fdiv v (256 : Int)))) (Int.toNat (IntKind.wrap IntKind.i64 ((IntKind.wrap IntKind.i64 a) + (2 : Int)))) (IntKind.wrap IntKind.u8 (Int.fdiv v (65536 : Int)))) (Int.toNat (IntKind.wrap IntKind.i64 ((IntKind.wrap IntKind.i64 a) + (3 : Int)))) (IntKind.wrap IntKind.u8 (Int.fdiv v (16777216 : Int))))), (SV.b true)]))
                    else
                      (Tree.fail))
                  else
                    (Tree.fail))
                else
                  (Tree.fail))
              else
                (Tree.fail))
            else
              (Tree.fail))
          else
            (Tree.fail)))
      else
        (bif (Bool.or (Bool.not (Nat.beq (List.length m) 0)) true) then
          (bif (Nat.ble ((0 + (List.length m)) * 1) 140737488355328) then
            (bif (inRange (IntKind.wrap IntKind.i64 ((IntKind.wrap IntKind.i64 a) + (0 : Int))) (List.length m)) then
              (bif (inRange (IntKind.wrap IntKind.i64 ((IntKind.wrap IntKind.i64 a) + (1 : Int))) (List.length (List.set m (Int.toNat (IntKind.wrap IntKind.i64 ((IntKind.wrap IntKind.i64 a) + (0 : Int)))) (IntKind.wrap IntKind.u8 (Int.fdiv v (1 : Int)))))) then
                (bif (inRange (IntKind.wrap IntKind.i64 ((IntKind.wrap IntKind.i64 a) + (2 : Int))) (List.length (List.set (List.set m (Int.toNat (IntKind.wrap IntKind.i64 ((IntKind.wrap IntKind.i64 a) + (0 : Int)))) (IntKind.wrap IntKind.u8 (Int.fdiv v (1 : Int)))) (Int.toNat (IntKind.wrap IntKind.i64 ((IntKind.wrap IntKind.i64 a) + (1 : Int)))) (IntKind.wrap IntKind.u8 (Int.fdiv v (256 : Int)))))) then
                  (bif (inRange (IntKind.wrap IntKind.i64 ((IntKind.wrap IntKind.i64 a) + (3 : Int))) (List.length (List.set (List.set (List.set m (Int.toNat (IntKind.wrap IntKind.i64 ((IntKind.wrap IntKind.i64 a) + (0 : Int)))) (IntKind.wrap IntKind.u8 (Int.fdiv v (1 : Int)))) (Int.toNat (IntKind.wrap IntKind.i64 ((IntKind.wrap IntKind.i64 a) + (1 : Int)))) (IntKind.wrap IntKind.u8 (Int.fdiv v (256 : Int)))) (Int.toNat (IntKind.wrap IntKind.i64 ((IntKind.wrap IntKind.i64 a) + (2 : Int)))) (IntKind.wrap IntKind.u8 (Int.fdiv v (65536 : Int)))))) then
                    (Tree.leaf (SV.tup [(SV.rd ETy.u8 (List.set (List.set (List.set (List.set m (Int.toNat (IntKind.wrap IntKind.i64 ((IntKind.wrap IntKind.i64 a) + (0 : Int)))) (IntKind.wrap IntKind.u8 (Int.fdiv v (1 : Int)))) (Int.toNat (IntKind.wrap IntKind.i64 ((IntKind.wrap IntKind.i64 a) + (1 : Int)))) (IntKind.wrap IntKind.u8 (Int.fdiv v (256 : Int)))) (Int.toNat (IntKind.wrap IntKind.i64 ((IntKind.wrap IntKind.i64 a) + (2 : Int)))) (IntKind.wrap IntKind.u8 (Int.fdiv v (65536 : Int)))) (Int.toNat (IntKind.wrap IntKind.i64 ((IntKind.wrap IntKind.i64 a) + (3 : Int)))) (IntKind.wrap IntKind.u8 (Int.fdiv v (16777216 : Int))))), (SV.b true)]))
                  else
                    (Tree.fail))
                else
                  (Tree.fail))
              else
                (Tree.fail))
            else
              (Tree.fail))
          else
            (Tree.fail))
        else
          (Tree.fail)))
    else
      (Tree.leaf (SV.tup [(SV.rd ETy.u8 m), (SV.b false)]))))
  else
    (Tree.fail) := by kernel_rfl
theorem a1_c_mem_Store (m : List Int) (a v : Int) (hm : m.length ≤ 1099511627776) (ok_m : okBytes m) (ok_a : okI .u32 a) (ok_v : okI .u32 v) : (evF E_mem_Store 60 174 [.rd .u8 m, .v (.int .u32 a), .v (.int .i64 1), .v (.int .u32 v)]).ends fun out_ => decO [.rd .u8, .b] out_ = some (if K.inR m.length a 1 = true then (K.st m a 1 v, true) else (m, false)) := by
  rw [t1_c_mem_Store, Tree.ends_holds]
  obtain ⟨a0, a1⟩ := okI_u32 ok_a
  obtain ⟨v0, v1⟩ := okI_u32 ok_v
  have ew : IntKind.i64.wrap a = a := wrapI64 (by omega) (by omega)
  have i0 : IntKind.i64.wrap (a + 0) = a := by rw [wrapI64 (by omega) (by omega)]; omega
  have s1 : K.inR m.length a 1 = true → K.st m a 1 v = m.set a.toNat (v % 256) := fun _ => rfl
  have hr : K.inR m.length a 1 = true ↔ a + 1 ≤ (m.length : Int) := by simp [K.inR]
  have d0 : v.fdiv 1 = v := by simp
  have hz : m.length.beq 0 = true → m.length = 0 := fun h => Nat.eq_of_beq_eq_true h
  simp only [Tree.holds_loop, Tree.holds_fork, Tree.holds_next, if_true, Tree.holds_cond, Tree.holds_letv, Tree.holds_leaf, Tree.holds_fail, decO, decA, decTup, decMach, decCore, decTrap, decInstr, decPart, decGuest, decConf, decEvent, decVcpu, decStep, bytesS, boolS, eventsS, intsS, guestsS, vcpusS, rowS, castL, Option.bind_some, Option.map_some, Option.some.injEq, Nat.beq_refl, beq_self_eq_true, Bool.and_self, cond_true, cond_false, eq_self, beq_iff_eq, beq_eq_false_iff_ne, bne_iff_ne, bne_eq_false_iff_eq, ne_eq, decide_eq_true_eq, decide_eq_false_iff_not, ble_true, ble_false, inRange_iff, inRange_false, Int.ofNat_eq_natCast, ew, i0, wrap8, d0]
  repeat' (first | refine drop_ok ?_ | intro _ | with_reducible apply And.intro)
  all_goals first | (rw [if_pos (by assumption)]; rfl) | (rw [if_neg (by simp_all)]; done) | omega | (exfalso; have := hr.1 (by assumption); omega) | (exfalso; have q := hr.1 (by assumption); have := hz (by assumption); omega) | (rename_i z; simp at z; done)
theorem a4_c_mem_Store (m : List Int) (a v : Int) (hm : m.length ≤ 1099511627776) (ok_m : okBytes m) (ok_a : okI .u32 a) (ok_v : okI .u32 v) : (evF E_mem_Store 60 174 [.rd .u8 m, .v (.int .u32 a), .v (.int .i64 4), .v (.int .u32 v)]).ends fun out_ => decO [.rd .u8, .b] out_ = some (if K.inR m.length a 4 = true then (K.st m a 4 v, true) else (m, false)) := by
  rw [t4_c_mem_Store, Tree.ends_holds]
  obtain ⟨a0, a1⟩ := okI_u32 ok_a
  obtain ⟨v0, v1⟩ := okI_u32 ok_v
  have ew : IntKind.i64.wrap a = a := wrapI64 (by omega) (by omega)
  have i0 : IntKind.i64.wrap (a + 0) = a := by rw [wrapI64 (by omega) (by omega)]; omega
  have i1 : IntKind.i64.wrap (a + 1) = a + 1 := wrapI64 (by omega) (by omega)
  have i2 : IntKind.i64.wrap (a + 2) = a + 2 := wrapI64 (by omega) (by omega)
  have i3 : IntKind.i64.wrap (a + 3) = a + 3 := wrapI64 (by omega) (by omega)
  have n1 : (a + 1).toNat = a.toNat + 1 := by omega
  have n2 : (a + 2).toNat = a.toNat + 2 := by omega
  have n3 : (a + 3).toNat = a.toNat + 3 := by omega
  have hr : K.inR m.length a 4 = true ↔ a + 4 ≤ (m.length : Int) := by simp [K.inR]
  have d0 : v.fdiv 1 = v := by simp
  have hz : m.length.beq 0 = true → m.length = 0 := fun h => Nat.eq_of_beq_eq_true h
  have d1 : v.fdiv 256 = v / 256 := Int.fdiv_eq_ediv_of_nonneg _ (by omega)
  have d2 : v.fdiv 65536 = v / 65536 := Int.fdiv_eq_ediv_of_nonneg _ (by omega)
  have d3 : v.fdiv 16777216 = v / 16777216 := Int.fdiv_eq_ediv_of_nonneg _ (by omega)
  simp only [Tree.holds_loop, Tree.holds_fork, Tree.holds_next, if_true, Tree.holds_cond, Tree.holds_letv, Tree.holds_leaf, Tree.holds_fail, decO, decA, decTup, decMach, decCore, decTrap, decInstr, decPart, decGuest, decConf, decEvent, decVcpu, decStep, bytesS, boolS, eventsS, intsS, guestsS, vcpusS, rowS, castL, Option.bind_some, Option.map_some, Option.some.injEq, Nat.beq_refl, beq_self_eq_true, Bool.and_self, cond_true, cond_false, eq_self, beq_iff_eq, beq_eq_false_iff_ne, bne_iff_ne, bne_eq_false_iff_eq, ne_eq, decide_eq_true_eq, decide_eq_false_iff_not, ble_true, ble_false, inRange_iff, inRange_false, Int.ofNat_eq_natCast, ew, i0, i1, i2, i3, n1, n2, n3, wrap8, d0, d1, d2, d3, List.length_set]
  repeat' (first | refine drop_ok ?_ | intro _ | with_reducible apply And.intro)
  all_goals first | (rw [if_pos (by assumption)]; rfl) | (rw [if_neg (by simp_all)]; done) | omega | (exfalso; have := hr.1 (by assumption); omega) | (exfalso; have q := hr.1 (by assumption); have := hz (by assumption); omega) | (rename_i z; simp at z; done) | trace_state
theorem c_mem_Store : SpecOk EB 174 S_mem_Store := spec_sig ok_mem_Store (n := 60) fun ⟨m, a, n, v, ⟨⟩⟩ h hok => by
  have h := of_decide_eq_true h
  have o1 := ok_bytes (okSL_head hok)
  have o2 := ok_int (okSL_head (okSL_tail hok))
  have o3 := ok_int (okSL_head (okSL_tail (okSL_tail (okSL_tail hok))))
  rcases h with ⟨h | h, hm⟩
  · have h : n = 1 := h
    subst h; exact a1_c_mem_Store m a v hm o1 o2 o3
  · have h : n = 4 := h
    subst h; exact a4_c_mem_Store m a v hm o1 o2 o3

/-! fetch_Store -/

def S_fetch_Store : Spec := sig [.mach, .i .u32, .i .i64, .i .u32] [.mach, .trap] (fun (m, a, n, v, _) => K.store m a n v) (pre := fun (m, a, n, v, _) => decide ((n = 1 ∨ n = 4) ∧ m.mem.length ≤ 1099511627776))
noncomputable def E_fetch_Store : Env := EB_2.adds [(168, S_fetch_Resolve), (174, S_mem_Store)]

theorem ok_fetch_Store : EnvOk E_fetch_Store := okEB_2.adds (l := _) ⟨c_fetch_Resolve, (up_to_2 c_mem_Store), trivial⟩
theorem t_fetch_Store (m : PMach) (a : Int) (n : Int) (v : Int) : evF E_fetch_Store 60 164 (encArgs [.mach, .i .u32, .i .i64, .i .u32] (m, a, n, v, ())) = bif (decide (Or (n = (1 : Int)) (n = (4 : Int)))) then (Tree.letv (okO [(AT.i IntKind.u32), AT.trap]) (K.cell m a n) fun x0 => (bif (Bool.not (Bool.and (BEq.beq x0.snd.cause (0 : Int)) (Bool.and (BEq.beq x0.snd.tval (0 : Int)) true))) then (Tree.leaf (SV.tup [(SV.agg [(SV.arr IntKind.u32 16 m.core.regs), (SV.v (Value.int IntKind.u32 m.core.pc)), (SV.arr IntKind.u32 12 m.core.csr), (SV.rd ETy.u8 m.mem), (SV.v (Value.int IntKind.u64 m.time)), (SV.rd ETy.u8 m.out), (SV.v (Value.bool m.halted))]), (SV.agg [(SV.v (Value.int IntKind.i64 x0.snd.cause)), (SV.v (Value.int IntKind.u32 x0.snd.tval))])])) else (bif (decide (And (Or (n = (1 : Int)) (n = (4 : Int))) ((List.length m.mem) ≤ 1099511627776))) then (Tree.letv (okO [(AT.rd ETy.u8), AT.b]) (if ((K.inR (Int.ofNat (List.length m.mem)) x0.fst n) = true) then ((K.st m.mem x0.fst n v), true) else (m.mem, false)) fun x1 => (bif x1.snd then (Tree.leaf (SV.tup [(SV.agg [(SV.arr IntKind.u32 16 m.core.regs), (SV.v (Value.int IntKind.u32 m.core.pc)), (SV.arr IntKind.u32 12 m.core.csr), (SV.rd ETy.u8 x1.fst), (SV.v (Value.int IntKind.u64 m.time)), (SV.rd ETy.u8 m.out), (SV.v (Value.bool m.halted))]), (SV.agg [(SV.v (Value.int IntKind.i64 (0 : Int))), (SV.v (Value.int IntKind.u32 (0 : Int)))])])) else (Tree.leaf (SV.tup [(SV.agg [(SV.arr IntKind.u32 16 m.core.regs), (SV.v (Value.int
 IntKind.u32 m.core.pc)), (SV.arr IntKind.u32 12 m.core.csr), (SV.rd ETy.u8 x1.fst), (SV.v (Value.int IntKind.u64 m.time)), (SV.rd ETy.u8 m.out), (SV.v (Value.bool m.halted))]), (SV.agg [(SV.v (Value.int IntKind.i64 (0 : Int))), (SV.v (Value.int IntKind.u32 (0 : Int)))])])))) else (Tree.fail)))) else (Tree.fail) := by kernel_rfl
section
attribute [local irreducible] evF evFL evFLs
theorem a_fetch_Store (m : PMach) (a : Int) (n : Int) (v : Int) (hpre : (n = 1 ∨ n = 4) ∧ m.mem.length ≤ 1099511627776) (ok_m : okMach m) (ok_a : okI .u32 a) (ok_n : okI .i64 n) (ok_v : okI .u32 v) : (evF E_fetch_Store 60 164 (encArgs [.mach, .i .u32, .i .i64, .i .u32] (m, a, n, v, ()))).ends fun out_ => decO [.mach, .trap] out_ = some (K.store m a n v) := by
  rw [t_fetch_Store, Tree.ends_holds]
  obtain ⟨a0, a1⟩ := okI_u32 ok_a
  have hr := fun h => cell_range ok_m.core (a := a) (n := n) a0 (by omega) h
  simp only [Tree.holds_loop, Tree.holds_fork, Tree.holds_next, if_true, Tree.holds_cond, Tree.holds_letv, Tree.holds_leaf, Tree.holds_fail, decO, decA, decTup, decMach, decCore, decTrap, decInstr, decPart, decGuest, decConf, decEvent, decVcpu, decStep, bytesS, boolS, eventsS, intsS, guestsS, vcpusS, rowS, castL, Option.bind_some, Option.map_some, Option.some.injEq, Nat.beq_refl, beq_self_eq_true, Bool.and_self, cond_true, cond_false, eq_self, beq_iff_eq, beq_eq_false_iff_ne, bne_iff_ne, bne_eq_false_iff_eq, ne_eq, decide_eq_true_eq, decide_eq_false_iff_not, ble_true, ble_false, inRange_iff, inRange_false, Int.ofNat_eq_natCast, K.store]
  by_cases h : (K.cell m a n).2.cause = 0
  · have ht := cell_zero h
    have hi : K.inR m.mem.length (K.cell m a n).1 n = true := by have := hr h; simp only [K.inR, decide_eq_true_eq]; omega
    simp only [h, ht, hi, if_true]
    simp [hpre]
  · simp [h, hpre]
  
theorem c_fetch_Store : SpecOk EB_2 164 S_fetch_Store := spec_sig ok_fetch_Store (n := 60) fun ⟨m, a, n, v, ⟨⟩⟩ h hok => a_fetch_Store m a n v (of_decide_eq_true h) (ok_mach (okSL_head hok)) (ok_int (okSL_head (okSL_tail hok))) (ok_int (okSL_head (okSL_tail (okSL_tail hok)))) (ok_int (okSL_head (okSL_tail (okSL_tail (okSL_tail hok)))))
end

/-! exec_at -/

def S_exec_at : Spec := sig [.pstep] [.i .u32] (fun (s, _) => (s.x + s.i.imm % 4294967296) % 4294967296)
noncomputable def E_exec_at : Env := EB.adds []

theorem ok_exec_at : EnvOk E_exec_at := okEB.adds (l := _) trivial
theorem t_exec_at (s : PStep) : evF E_exec_at 60 162 (encArgs [.pstep] (s, ())) = Tree.leaf (SV.v (Value.int IntKind.u32 (IntKind.wrap IntKind.u32 (s.x + (IntKind.wrap IntKind.u32 s.i.imm))))) := by kernel_rfl
section
attribute [local irreducible] evF evFL evFLs
theorem a_exec_at (s : PStep) (ok_s : okS (encA (.pstep) s)) : (evF E_exec_at 60 162 (encArgs [.pstep] (s, ()))).ends fun out_ => decO [.i .u32] out_ = some ((s.x + s.i.imm % 4294967296) % 4294967296) := by
  rw [t_exec_at, Tree.ends_holds]
  simp only [Tree.holds_loop, Tree.holds_fork, Tree.holds_next, if_true, Tree.holds_cond, Tree.holds_letv, Tree.holds_leaf, Tree.holds_fail, decO, decA, decTup, decMach, decCore, decTrap, decInstr, decPart, decGuest, decConf, decEvent, decVcpu, decStep, bytesS, boolS, eventsS, intsS, guestsS, vcpusS, rowS, castL, Option.bind_some, Option.map_some, Option.some.injEq, Nat.beq_refl, beq_self_eq_true, Bool.and_self, cond_true, cond_false, eq_self, wrap32]
  
theorem c_exec_at : SpecOk EB 162 S_exec_at := spec_sig ok_exec_at (n := 60) fun ⟨s, ⟨⟩⟩ h hok => a_exec_at s (okSL_head hok)
end

/-! exec_size -/

def S_exec_size : Spec := sig [.pstep] [.i .i64] (fun (s, _) => if s.i.op = 13 ∨ s.i.op = 14 then 1 else 4)
noncomputable def E_exec_size : Env := EB.adds []

theorem ok_exec_size : EnvOk E_exec_size := okEB.adds (l := _) trivial
theorem t_exec_size (s : PStep) : evF E_exec_size 60 163 (encArgs [.pstep] (s, ())) = bif (BEq.beq s.i.op (13 : Int)) then (Tree.leaf (SV.v (Value.int IntKind.i64 (1 : Int)))) else (bif (BEq.beq s.i.op (14 : Int)) then (Tree.leaf (SV.v (Value.int IntKind.i64 (1 : Int)))) else (Tree.leaf (SV.v (Value.int IntKind.i64 (4 : Int))))) := by kernel_rfl
section
attribute [local irreducible] evF evFL evFLs
theorem a_exec_size (s : PStep) (ok_s : okS (encA (.pstep) s)) : (evF E_exec_size 60 163 (encArgs [.pstep] (s, ()))).ends fun out_ => decO [.i .i64] out_ = some (if s.i.op = 13 ∨ s.i.op = 14 then 1 else 4) := by
  rw [t_exec_size, Tree.ends_holds]
  simp only [Tree.holds_loop, Tree.holds_fork, Tree.holds_next, if_true, Tree.holds_cond, Tree.holds_letv, Tree.holds_leaf, Tree.holds_fail, decO, decA, decTup, decMach, decCore, decTrap, decInstr, decPart, decGuest, decConf, decEvent, decVcpu, decStep, bytesS, boolS, eventsS, intsS, guestsS, vcpusS, rowS, castL, Option.bind_some, Option.map_some, Option.some.injEq, Nat.beq_refl, beq_self_eq_true, Bool.and_self, cond_true, cond_false, eq_self, beq_iff_eq, beq_eq_false_iff_ne, bne_iff_ne, bne_eq_false_iff_eq, ne_eq, decide_eq_true_eq, decide_eq_false_iff_not, ble_true, ble_false, inRange_iff, inRange_false]
  repeat' (first | refine drop_ok ?_ | intro _ | with_reducible apply And.intro)
  all_goals first | (rw [if_pos (by omega)]; done) | (rw [if_neg (by omega)]; done)
  
theorem c_exec_size : SpecOk EB 163 S_exec_size := spec_sig ok_exec_size (n := 60) fun ⟨s, ⟨⟩⟩ h hok => a_exec_size s (okSL_head hok)
end

/-! exec_far -/

def S_exec_far : Spec := sig [.pstep] [.i .u32] (fun (s, _) => 4 * (s.i.imm % 4294967296) % 4294967296)
noncomputable def E_exec_far : Env := EB.adds []

theorem ok_exec_far : EnvOk E_exec_far := okEB.adds (l := _) trivial
theorem t_exec_far (s : PStep) : evF E_exec_far 60 166 (encArgs [.pstep] (s, ())) = Tree.leaf (SV.v (Value.int IntKind.u32 (IntKind.wrap IntKind.u32 ((4 : Int) * (IntKind.wrap IntKind.u32 s.i.imm))))) := by kernel_rfl
section
attribute [local irreducible] evF evFL evFLs
theorem a_exec_far (s : PStep) (ok_s : okS (encA (.pstep) s)) : (evF E_exec_far 60 166 (encArgs [.pstep] (s, ()))).ends fun out_ => decO [.i .u32] out_ = some (4 * (s.i.imm % 4294967296) % 4294967296) := by
  rw [t_exec_far, Tree.ends_holds]
  simp only [Tree.holds_loop, Tree.holds_fork, Tree.holds_next, if_true, Tree.holds_cond, Tree.holds_letv, Tree.holds_leaf, Tree.holds_fail, decO, decA, decTup, decMach, decCore, decTrap, decInstr, decPart, decGuest, decConf, decEvent, decVcpu, decStep, bytesS, boolS, eventsS, intsS, guestsS, vcpusS, rowS, castL, Option.bind_some, Option.map_some, Option.some.injEq, Nat.beq_refl, beq_self_eq_true, Bool.and_self, cond_true, cond_false, eq_self, wrap32]
  
theorem c_exec_far : SpecOk EB 166 S_exec_far := spec_sig ok_exec_far (n := 60) fun ⟨s, ⟨⟩⟩ h hok => a_exec_far s (okSL_head hok)
end

/-! exec_Execute -/

def S_exec_Execute : Spec := sig [.mach, .instr] [.mach, .trap] (fun (m, i, _) => K.exec m i) (pre := fun (m, i, _) => decide (1 ≤ i.op ∧ i.op ≤ 20 ∧ m.mem.length ≤ 1099511627776))
noncomputable def E_exec_Execute : Env := EB_1_2.adds [(136, S_regs_Get), (138, S_regs_Set), (141, S_exec_Advance), (167, S_alu_Eval), (165, S_alu_BranchTaken), (153, S_fetch_Load), (164, S_fetch_Store), (149, S_isa_FormatOf), (162, S_exec_at), (163, S_exec_size), (166, S_exec_far)]

theorem ok_exec_Execute : EnvOk E_exec_Execute := okEB_1_2.adds (l := _) ⟨(up_to_1_2 c_regs_Get), (up_to_1_2 c_regs_Set), (up_to_1_2 c_exec_Advance), (up_to_1_2 c_alu_Eval), (up_to_1_2 c_alu_BranchTaken), (up_2_to_1_2 c_fetch_Load), (up_2_to_1_2 c_fetch_Store), (up_1_to_1_2 c_isa_FormatOf), (up_to_1_2 c_exec_at), (up_to_1_2 c_exec_size), (up_to_1_2 c_exec_far), trivial⟩
theorem t_exec_Execute (m : PMach) (i : PInstr) : evF E_exec_Execute 60 122 (encArgs [.mach, .instr] (m, i, ())) = Tree.letv (okO [(AT.i IntKind.u32)]) (K.get m.core.regs i.ra) fun x0 => (Tree.letv (okO [(AT.i IntKind.u32)]) (K.get m.core.regs i.rb) fun x1 => (Tree.letv (okO [(AT.i IntKind.u32)]) (K.get m.core.regs i.rd) fun x2 => (bif (BEq.beq i.op (9 : Int)) then (Tree.letv (okO [(AT.i IntKind.u32)]) ((x0 + (i.imm % (4294967296 : Int))) % (4294967296 : Int)) fun x3 => (Tree.letv (okO [(AT.a IntKind.u32 16)]) (K.put m.core.regs i.rd x3) fun x4 => (Tree.letv (okO [AT.core]) (PCore.mk x4 ((m.core.pc + (4 : Int)) % (4294967296 : Int)) m.core.csr) fun x5 => (Tree.leaf (SV.tup [(SV.agg [(SV.arr IntKind.u32 16 x5.regs), (SV.v (Value.int IntKind.u32 x5.pc)), (SV.arr IntKind.u32 12 x5.csr), (SV.rd ETy.u8 m.mem), (SV.v (Value.int IntKind.u64 m.time)), (SV.rd ETy.u8 m.out), (SV.v (Value.bool m.halted))]), (SV.agg [(SV.v (Value.int IntKind.i64 (0 : Int))), (SV.v (Value.int IntKind.u32 (0 : Int)))])]))))) else (bif (BEq.beq i.op (10 : Int)) then (Tree.letv (okO [(AT.a IntKind.u32 16)]) (K.put m.core.regs i.rd (IntKind.wrap IntKind.u32 ((IntKind.wrap IntKind.u32 i.imm) * (16384 : Int)))) fun x3 => (Tree.letv (okO [AT.core]) (PCore.mk x3 ((m.core.pc + (4 : Int)) % (4294967296 : Int)) m.core.csr) fun x4 => (Tree.leaf (SV.tup [(SV.agg [(SV.arr IntKind.u32 16 x4.regs), (SV.v (Value.int IntKind.u32 x4.pc)), (SV.arr IntKind.u32 12 x4.csr), (SV.rd ETy.u8 m.mem), (SV.v (Value.int IntKind.u64
 m.time)), (SV.rd ETy.u8 m.out), (SV.v (Value.bool m.halted))]), (SV.agg [(SV.v (Value.int IntKind.i64 (0 : Int))), (SV.v (Value.int IntKind.u32 (0 : Int)))])])))) else (bif (BEq.beq i.op (11 : Int)) then (Tree.letv (okO [(AT.i IntKind.u32)]) ((x0 + (i.imm % (4294967296 : Int))) % (4294967296 : Int)) fun x3 => (Tree.letv (okO [(AT.i IntKind.i64)]) (if (Or (i.op = (13 : Int)) (i.op = (14 : Int))) then (1 : Int) else (4 : Int)) fun x4 => (bif (decide (Or (x4 = (1 : Int)) (x4 = (4 : Int)))) then (Tree.letv (okO [(AT.i IntKind.u32), AT.trap]) (K.load m x3 x4) fun x5 => (bif (BEq.beq x5.snd.cause (0 : Int)) then (Tree.letv (okO [(AT.a IntKind.u32 16)]) (K.put m.core.regs i.rd x5.fst) fun x6 => (Tree.letv (okO [AT.core]) (PCore.mk x6 ((m.core.pc + (4 : Int)) % (4294967296 : Int)) m.core.csr) fun x7 => (Tree.leaf (SV.tup [(SV.agg [(SV.arr IntKind.u32 16 x7.regs), (SV.v (Value.int IntKind.u32 x7.pc)), (SV.arr IntKind.u32 12 x7.csr), (SV.rd ETy.u8 m.mem), (SV.v (Value.int IntKind.u64 m.time)), (SV.rd ETy.u8 m.out), (SV.v (Value.bool m.halted))]), (SV.agg [(SV.v (Value.int IntKind.i64 x5.snd.cause)), (SV.v (Value.int IntKind.u32 x5.snd.tval))])])))) else (Tree.leaf (SV.tup [(SV.agg [(SV.arr IntKind.u32 16 m.core.regs), (SV.v (Value.int IntKind.u32 m.core.pc)), (SV.arr IntKind.u32 12 m.core.csr), (SV.rd ETy.u8 m.mem), (SV.v (Value.int IntKind.u64 m.time)), (SV.rd ETy.u8 m.out), (SV.v (Value.bool m.halted))]), (SV.agg [(SV.v (Value.int IntKind.i64 x5.snd.cause)), (SV.v (Value.int
 IntKind.u32 x5.snd.tval))])])))) else (Tree.fail)))) else (bif (BEq.beq i.op (13 : Int)) then (Tree.letv (okO [(AT.i IntKind.u32)]) ((x0 + (i.imm % (4294967296 : Int))) % (4294967296 : Int)) fun x3 => (Tree.letv (okO [(AT.i IntKind.i64)]) (if (Or (i.op = (13 : Int)) (i.op = (14 : Int))) then (1 : Int) else (4 : Int)) fun x4 => (bif (decide (Or (x4 = (1 : Int)) (x4 = (4 : Int)))) then (Tree.letv (okO [(AT.i IntKind.u32), AT.trap]) (K.load m x3 x4) fun x5 => (bif (BEq.beq x5.snd.cause (0 : Int)) then (Tree.letv (okO [(AT.a IntKind.u32 16)]) (K.put m.core.regs i.rd x5.fst) fun x6 => (Tree.letv (okO [AT.core]) (PCore.mk x6 ((m.core.pc + (4 : Int)) % (4294967296 : Int)) m.core.csr) fun x7 => (Tree.leaf (SV.tup [(SV.agg [(SV.arr IntKind.u32 16 x7.regs), (SV.v (Value.int IntKind.u32 x7.pc)), (SV.arr IntKind.u32 12 x7.csr), (SV.rd ETy.u8 m.mem), (SV.v (Value.int IntKind.u64 m.time)), (SV.rd ETy.u8 m.out), (SV.v (Value.bool m.halted))]), (SV.agg [(SV.v (Value.int IntKind.i64 x5.snd.cause)), (SV.v (Value.int IntKind.u32 x5.snd.tval))])])))) else (Tree.leaf (SV.tup [(SV.agg [(SV.arr IntKind.u32 16 m.core.regs), (SV.v (Value.int IntKind.u32 m.core.pc)), (SV.arr IntKind.u32 12 m.core.csr), (SV.rd ETy.u8 m.mem), (SV.v (Value.int IntKind.u64 m.time)), (SV.rd ETy.u8 m.out), (SV.v (Value.bool m.halted))]), (SV.agg [(SV.v (Value.int IntKind.i64 x5.snd.cause)), (SV.v (Value.int IntKind.u32 x5.snd.tval))])])))) else (Tree.fail)))) else (bif (BEq.beq i.op (12 : Int)) then (Tree.letv (okO [(AT.i
 IntKind.u32)]) ((x0 + (i.imm % (4294967296 : Int))) % (4294967296 : Int)) fun x3 => (Tree.letv (okO [(AT.i IntKind.i64)]) (if (Or (i.op = (13 : Int)) (i.op = (14 : Int))) then (1 : Int) else (4 : Int)) fun x4 => (bif (decide (And (Or (x4 = (1 : Int)) (x4 = (4 : Int))) ((List.length m.mem) ≤ 1099511627776))) then (Tree.letv (okO [AT.mach, AT.trap]) (K.store m x3 x4 x2) fun x5 => (bif (BEq.beq x5.snd.cause (0 : Int)) then (Tree.letv (okO [AT.core]) (PCore.mk x5.fst.core.regs ((x5.fst.core.pc + (4 : Int)) % (4294967296 : Int)) x5.fst.core.csr) fun x6 => (Tree.leaf (SV.tup [(SV.agg [(SV.arr IntKind.u32 16 x6.regs), (SV.v (Value.int IntKind.u32 x6.pc)), (SV.arr IntKind.u32 12 x6.csr), (SV.rd ETy.u8 x5.fst.mem), (SV.v (Value.int IntKind.u64 x5.fst.time)), (SV.rd ETy.u8 x5.fst.out), (SV.v (Value.bool x5.fst.halted))]), (SV.agg [(SV.v (Value.int IntKind.i64 x5.snd.cause)), (SV.v (Value.int IntKind.u32 x5.snd.tval))])]))) else (Tree.leaf (SV.tup [(SV.agg [(SV.arr IntKind.u32 16 m.core.regs), (SV.v (Value.int IntKind.u32 m.core.pc)), (SV.arr IntKind.u32 12 m.core.csr), (SV.rd ETy.u8 m.mem), (SV.v (Value.int IntKind.u64 m.time)), (SV.rd ETy.u8 m.out), (SV.v (Value.bool m.halted))]), (SV.agg [(SV.v (Value.int IntKind.i64 x5.snd.cause)), (SV.v (Value.int IntKind.u32 x5.snd.tval))])])))) else (Tree.fail)))) else (bif (BEq.beq i.op (14 : Int)) then (Tree.letv (okO [(AT.i IntKind.u32)]) ((x0 + (i.imm % (4294967296 : Int))) % (4294967296 : Int)) fun x3 => (Tree.letv (okO [(AT.i IntKind.i64)])
 (if (Or (i.op = (13 : Int)) (i.op = (14 : Int))) then (1 : Int) else (4 : Int)) fun x4 => (bif (decide (And (Or (x4 = (1 : Int)) (x4 = (4 : Int))) ((List.length m.mem) ≤ 1099511627776))) then (Tree.letv (okO [AT.mach, AT.trap]) (K.store m x3 x4 x2) fun x5 => (bif (BEq.beq x5.snd.cause (0 : Int)) then (Tree.letv (okO [AT.core]) (PCore.mk x5.fst.core.regs ((x5.fst.core.pc + (4 : Int)) % (4294967296 : Int)) x5.fst.core.csr) fun x6 => (Tree.leaf (SV.tup [(SV.agg [(SV.arr IntKind.u32 16 x6.regs), (SV.v (Value.int IntKind.u32 x6.pc)), (SV.arr IntKind.u32 12 x6.csr), (SV.rd ETy.u8 x5.fst.mem), (SV.v (Value.int IntKind.u64 x5.fst.time)), (SV.rd ETy.u8 x5.fst.out), (SV.v (Value.bool x5.fst.halted))]), (SV.agg [(SV.v (Value.int IntKind.i64 x5.snd.cause)), (SV.v (Value.int IntKind.u32 x5.snd.tval))])]))) else (Tree.leaf (SV.tup [(SV.agg [(SV.arr IntKind.u32 16 m.core.regs), (SV.v (Value.int IntKind.u32 m.core.pc)), (SV.arr IntKind.u32 12 m.core.csr), (SV.rd ETy.u8 m.mem), (SV.v (Value.int IntKind.u64 m.time)), (SV.rd ETy.u8 m.out), (SV.v (Value.bool m.halted))]), (SV.agg [(SV.v (Value.int IntKind.i64 x5.snd.cause)), (SV.v (Value.int IntKind.u32 x5.snd.tval))])])))) else (Tree.fail)))) else (bif (BEq.beq i.op (15 : Int)) then (Tree.letv (okO [AT.b]) (K.taken i.op x2 x0) fun x3 => (bif x3 then (Tree.letv (okO [(AT.i IntKind.u32)]) (((4 : Int) * (i.imm % (4294967296 : Int))) % (4294967296 : Int)) fun x4 => (Tree.letv (okO [AT.core]) (PCore.mk m.core.regs ((m.core.pc + x4) % (4294967296 :
 Int)) m.core.csr) fun x5 => (Tree.leaf (SV.tup [(SV.agg [(SV.arr IntKind.u32 16 x5.regs), (SV.v (Value.int IntKind.u32 x5.pc)), (SV.arr IntKind.u32 12 x5.csr), (SV.rd ETy.u8 m.mem), (SV.v (Value.int IntKind.u64 m.time)), (SV.rd ETy.u8 m.out), (SV.v (Value.bool m.halted))]), (SV.agg [(SV.v (Value.int IntKind.i64 (0 : Int))), (SV.v (Value.int IntKind.u32 (0 : Int)))])])))) else (Tree.letv (okO [AT.core]) (PCore.mk m.core.regs ((m.core.pc + (4 : Int)) % (4294967296 : Int)) m.core.csr) fun x4 => (Tree.leaf (SV.tup [(SV.agg [(SV.arr IntKind.u32 16 x4.regs), (SV.v (Value.int IntKind.u32 x4.pc)), (SV.arr IntKind.u32 12 x4.csr), (SV.rd ETy.u8 m.mem), (SV.v (Value.int IntKind.u64 m.time)), (SV.rd ETy.u8 m.out), (SV.v (Value.bool m.halted))]), (SV.agg [(SV.v (Value.int IntKind.i64 (0 : Int))), (SV.v (Value.int IntKind.u32 (0 : Int)))])]))))) else (bif (BEq.beq i.op (16 : Int)) then (Tree.letv (okO [AT.b]) (K.taken i.op x2 x0) fun x3 => (bif x3 then (Tree.letv (okO [(AT.i IntKind.u32)]) (((4 : Int) * (i.imm % (4294967296 : Int))) % (4294967296 : Int)) fun x4 => (Tree.letv (okO [AT.core]) (PCore.mk m.core.regs ((m.core.pc + x4) % (4294967296 : Int)) m.core.csr) fun x5 => (Tree.leaf (SV.tup [(SV.agg [(SV.arr IntKind.u32 16 x5.regs), (SV.v (Value.int IntKind.u32 x5.pc)), (SV.arr IntKind.u32 12 x5.csr), (SV.rd ETy.u8 m.mem), (SV.v (Value.int IntKind.u64 m.time)), (SV.rd ETy.u8 m.out), (SV.v (Value.bool m.halted))]), (SV.agg [(SV.v (Value.int IntKind.i64 (0 : Int))), (SV.v (Value.int
 IntKind.u32 (0 : Int)))])])))) else (Tree.letv (okO [AT.core]) (PCore.mk m.core.regs ((m.core.pc + (4 : Int)) % (4294967296 : Int)) m.core.csr) fun x4 => (Tree.leaf (SV.tup [(SV.agg [(SV.arr IntKind.u32 16 x4.regs), (SV.v (Value.int IntKind.u32 x4.pc)), (SV.arr IntKind.u32 12 x4.csr), (SV.rd ETy.u8 m.mem), (SV.v (Value.int IntKind.u64 m.time)), (SV.rd ETy.u8 m.out), (SV.v (Value.bool m.halted))]), (SV.agg [(SV.v (Value.int IntKind.i64 (0 : Int))), (SV.v (Value.int IntKind.u32 (0 : Int)))])]))))) else (bif (BEq.beq i.op (17 : Int)) then (Tree.letv (okO [AT.b]) (K.taken i.op x2 x0) fun x3 => (bif x3 then (Tree.letv (okO [(AT.i IntKind.u32)]) (((4 : Int) * (i.imm % (4294967296 : Int))) % (4294967296 : Int)) fun x4 => (Tree.letv (okO [AT.core]) (PCore.mk m.core.regs ((m.core.pc + x4) % (4294967296 : Int)) m.core.csr) fun x5 => (Tree.leaf (SV.tup [(SV.agg [(SV.arr IntKind.u32 16 x5.regs), (SV.v (Value.int IntKind.u32 x5.pc)), (SV.arr IntKind.u32 12 x5.csr), (SV.rd ETy.u8 m.mem), (SV.v (Value.int IntKind.u64 m.time)), (SV.rd ETy.u8 m.out), (SV.v (Value.bool m.halted))]), (SV.agg [(SV.v (Value.int IntKind.i64 (0 : Int))), (SV.v (Value.int IntKind.u32 (0 : Int)))])])))) else (Tree.letv (okO [AT.core]) (PCore.mk m.core.regs ((m.core.pc + (4 : Int)) % (4294967296 : Int)) m.core.csr) fun x4 => (Tree.leaf (SV.tup [(SV.agg [(SV.arr IntKind.u32 16 x4.regs), (SV.v (Value.int IntKind.u32 x4.pc)), (SV.arr IntKind.u32 12 x4.csr), (SV.rd ETy.u8 m.mem), (SV.v (Value.int IntKind.u64 m.time)),
 (SV.rd ETy.u8 m.out), (SV.v (Value.bool m.halted))]), (SV.agg [(SV.v (Value.int IntKind.i64 (0 : Int))), (SV.v (Value.int IntKind.u32 (0 : Int)))])]))))) else (bif (BEq.beq i.op (18 : Int)) then (Tree.letv (okO [(AT.i IntKind.u32)]) (((4 : Int) * (i.imm % (4294967296 : Int))) % (4294967296 : Int)) fun x3 => (bif (BEq.beq i.op (19 : Int)) then (Tree.letv (okO [(AT.i IntKind.u32)]) ((x0 + (i.imm % (4294967296 : Int))) % (4294967296 : Int)) fun x4 => (Tree.letv (okO [(AT.a IntKind.u32 16)]) (K.put m.core.regs i.rd (IntKind.wrap IntKind.u32 (m.core.pc + (4 : Int)))) fun x5 => (Tree.letv (okO [AT.core]) (PCore.mk x5 ((m.core.pc + (4 : Int)) % (4294967296 : Int)) m.core.csr) fun x6 => (Tree.leaf (SV.tup [(SV.agg [(SV.arr IntKind.u32 16 x6.regs), (SV.v (Value.int IntKind.u32 x4)), (SV.arr IntKind.u32 12 x6.csr), (SV.rd ETy.u8 m.mem), (SV.v (Value.int IntKind.u64 m.time)), (SV.rd ETy.u8 m.out), (SV.v (Value.bool m.halted))]), (SV.agg [(SV.v (Value.int IntKind.i64 (0 : Int))), (SV.v (Value.int IntKind.u32 (0 : Int)))])]))))) else (Tree.letv (okO [(AT.a IntKind.u32 16)]) (K.put m.core.regs i.rd (IntKind.wrap IntKind.u32 (m.core.pc + (4 : Int)))) fun x4 => (Tree.letv (okO [AT.core]) (PCore.mk x4 ((m.core.pc + (4 : Int)) % (4294967296 : Int)) m.core.csr) fun x5 => (Tree.leaf (SV.tup [(SV.agg [(SV.arr IntKind.u32 16 x5.regs), (SV.v (Value.int IntKind.u32 (IntKind.wrap IntKind.u32 (m.core.pc + x3)))), (SV.arr IntKind.u32 12 x5.csr), (SV.rd ETy.u8 m.mem), (SV.v (Value.int IntKind.u64
 m.time)), (SV.rd ETy.u8 m.out), (SV.v (Value.bool m.halted))]), (SV.agg [(SV.v (Value.int IntKind.i64 (0 : Int))), (SV.v (Value.int IntKind.u32 (0 : Int)))])])))))) else (bif (BEq.beq i.op (19 : Int)) then (Tree.letv (okO [(AT.i IntKind.u32)]) (((4 : Int) * (i.imm % (4294967296 : Int))) % (4294967296 : Int)) fun x3 => (bif (BEq.beq i.op (19 : Int)) then (Tree.letv (okO [(AT.i IntKind.u32)]) ((x0 + (i.imm % (4294967296 : Int))) % (4294967296 : Int)) fun x4 => (Tree.letv (okO [(AT.a IntKind.u32 16)]) (K.put m.core.regs i.rd (IntKind.wrap IntKind.u32 (m.core.pc + (4 : Int)))) fun x5 => (Tree.letv (okO [AT.core]) (PCore.mk x5 ((m.core.pc + (4 : Int)) % (4294967296 : Int)) m.core.csr) fun x6 => (Tree.leaf (SV.tup [(SV.agg [(SV.arr IntKind.u32 16 x6.regs), (SV.v (Value.int IntKind.u32 x4)), (SV.arr IntKind.u32 12 x6.csr), (SV.rd ETy.u8 m.mem), (SV.v (Value.int IntKind.u64 m.time)), (SV.rd ETy.u8 m.out), (SV.v (Value.bool m.halted))]), (SV.agg [(SV.v (Value.int IntKind.i64 (0 : Int))), (SV.v (Value.int IntKind.u32 (0 : Int)))])]))))) else (Tree.letv (okO [(AT.a IntKind.u32 16)]) (K.put m.core.regs i.rd (IntKind.wrap IntKind.u32 (m.core.pc + (4 : Int)))) fun x4 => (Tree.letv (okO [AT.core]) (PCore.mk x4 ((m.core.pc + (4 : Int)) % (4294967296 : Int)) m.core.csr) fun x5 => (Tree.leaf (SV.tup [(SV.agg [(SV.arr IntKind.u32 16 x5.regs), (SV.v (Value.int IntKind.u32 (IntKind.wrap IntKind.u32 (m.core.pc + x3)))), (SV.arr IntKind.u32 12 x5.csr), (SV.rd ETy.u8 m.mem), (SV.v (Value.int
 IntKind.u64 m.time)), (SV.rd ETy.u8 m.out), (SV.v (Value.bool m.halted))]), (SV.agg [(SV.v (Value.int IntKind.i64 (0 : Int))), (SV.v (Value.int IntKind.u32 (0 : Int)))])])))))) else (bif (BEq.beq i.op (20 : Int)) then (Tree.leaf (SV.tup [(SV.agg [(SV.arr IntKind.u32 16 m.core.regs), (SV.v (Value.int IntKind.u32 m.core.pc)), (SV.arr IntKind.u32 12 m.core.csr), (SV.rd ETy.u8 m.mem), (SV.v (Value.int IntKind.u64 m.time)), (SV.rd ETy.u8 m.out), (SV.v (Value.bool m.halted))]), (SV.agg [(SV.v (Value.int IntKind.i64 (5 : Int))), (SV.v (Value.int IntKind.u32 (0 : Int)))])])) else (Tree.letv (okO [(AT.i IntKind.i64)]) (K.form i.op) fun x3 => (bif (BEq.beq x3 (1 : Int)) then (Tree.letv (okO [(AT.i IntKind.u32)]) (K.alu i.op x0 x1) fun x4 => (Tree.letv (okO [(AT.a IntKind.u32 16)]) (K.put m.core.regs i.rd x4) fun x5 => (Tree.letv (okO [AT.core]) (PCore.mk x5 ((m.core.pc + (4 : Int)) % (4294967296 : Int)) m.core.csr) fun x6 => (Tree.leaf (SV.tup [(SV.agg [(SV.arr IntKind.u32 16 x6.regs), (SV.v (Value.int IntKind.u32 x6.pc)), (SV.arr IntKind.u32 12 x6.csr), (SV.rd ETy.u8 m.mem), (SV.v (Value.int IntKind.u64 m.time)), (SV.rd ETy.u8 m.out), (SV.v (Value.bool m.halted))]), (SV.agg [(SV.v (Value.int IntKind.i64 (0 : Int))), (SV.v (Value.int IntKind.u32 (0 : Int)))])]))))) else (Tree.leaf (SV.tup [(SV.agg [(SV.arr IntKind.u32 16 m.core.regs), (SV.v (Value.int IntKind.u32 m.core.pc)), (SV.arr IntKind.u32 12 m.core.csr), (SV.rd ETy.u8 m.mem), (SV.v (Value.int IntKind.u64 m.time)), (SV.rd ETy.u8
 m.out), (SV.v (Value.bool m.halted))]), (SV.agg [(SV.v (Value.int IntKind.i64 (0 : Int))), (SV.v (Value.int IntKind.u32 (0 : Int)))])])))))))))))))))))) := by kernel_rfl
section
attribute [local irreducible] evF evFL evFLs
theorem a_exec_Execute (m : PMach) (i : PInstr) (hpre : 1 ≤ i.op ∧ i.op ≤ 20 ∧ m.mem.length ≤ 1099511627776) (ok_m : okMach m) (ok_i : okInstr i) : (evF E_exec_Execute 60 122 (encArgs [.mach, .instr] (m, i, ()))).ends fun out_ => decO [.mach, .trap] out_ = some (K.exec m i) := by
  rw [t_exec_Execute, Tree.ends_holds]
  obtain ⟨im0, im1⟩ := okI_i32 ok_i.imm
  have hpre1 := hpre.1
  have hpre2 := hpre.2.1
  simp only [Tree.holds_loop, Tree.holds_fork, Tree.holds_next, if_true, Tree.holds_cond, Tree.holds_letv, Tree.holds_leaf, Tree.holds_fail, decO, decA, decTup, decMach, decCore, decTrap, decInstr, decPart, decGuest, decConf, decEvent, decVcpu, decStep, bytesS, boolS, eventsS, intsS, guestsS, vcpusS, rowS, castL, Option.bind_some, Option.map_some, Option.some.injEq, Nat.beq_refl, beq_self_eq_true, Bool.and_self, cond_true, cond_false, eq_self, beq_iff_eq, beq_eq_false_iff_ne, bne_iff_ne, bne_eq_false_iff_eq, ne_eq, decide_eq_true_eq, decide_eq_false_iff_not, ble_true, ble_false, inRange_iff, inRange_false, wrap32]
  have e0 : (K.get m.core.regs i.ra + i.imm % 4294967296) % 4294967296 = K.ea m i := rfl
  have e1 : 4 * (i.imm % 4294967296) % 4294967296 = K.far i := by unfold K.far; omega
  have x1 : 1 ≤ i.op → i.op ≤ 8 → K.exec m i = _ := fun a b => by unfold K.exec; rw [if_pos ⟨a, b⟩]
  have x9 : i.op = 9 → K.exec m i = _ := fun a => by unfold K.exec; rw [if_neg (by omega), if_pos a]
  have x10 : i.op = 10 → K.exec m i = _ := fun a => by unfold K.exec; rw [if_neg (by omega), if_neg (by omega), if_pos a]
  have x11 : i.op = 11 ∨ i.op = 13 → K.exec m i = _ := fun a => by unfold K.exec; rw [if_neg (by omega), if_neg (by omega), if_neg (by omega), if_pos a]
  have x12 : i.op = 12 ∨ i.op = 14 → K.exec m i = _ := fun a => by unfold K.exec; rw [if_neg (by omega), if_neg (by omega), if_neg (by omega), if_neg (by omega), if_pos a]
  have x15 : 15 ≤ i.op → i.op ≤ 17 → K.exec m i = _ := fun a b => by unfold K.exec; rw [if_neg (by omega), if_neg (by omega), if_neg (by omega), if_neg (by omega), if_neg (by omega), if_pos ⟨a, b⟩]
  have x18 : i.op = 18 → K.exec m i = _ := fun a => by unfold K.exec; rw [if_neg (by omega), if_neg (by omega), if_neg (by omega), if_neg (by omega), if_neg (by omega), if_neg (by omega), if_pos a]
  have x19 : i.op = 19 → K.exec m i = _ := fun a => by unfold K.exec; rw [if_neg (by omega), if_neg (by omega), if_neg (by omega), if_neg (by omega), if_neg (by omega), if_neg (by omega), if_neg (by omega), if_pos a]
  have x20 : i.op = 20 → K.exec m i = (m, ⟨5, 0⟩) := fun a => by unfold K.exec; rw [if_neg (by omega), if_neg (by omega), if_neg (by omega), if_neg (by omega), if_neg (by omega), if_neg (by omega), if_neg (by omega), if_neg (by omega)]
  have hform : K.form i.op = 1 → i.op ≤ 8 := fun h => by unfold K.form at h; (repeat' split at h) <;> omega
  have hform2 : ¬ K.form i.op = 1 → 8 < i.op := fun h => by
    unfold K.form at h
    by_cases q : i.op ≤ 8
    · rw [if_pos ⟨hpre1, q⟩] at h; exact absurd rfl h
    · omega
  simp only [e0, e1]
  clear ok_m ok_i im0 im1
  have lz := fun a n => load_zero (m := m) (a := a) (n := n)
  have sz := fun a n v => store_zero (m := m) (a := a) (n := n) (v := v)
  have ss := fun a n v => store_same (m := m) (a := a) (n := n) (v := v)
  repeat' (first | refine drop_ok ?_ | intro _ | with_reducible apply And.intro)
  all_goals try omega
  all_goals try (rw [x9 (by assumption)]; rfl)
  all_goals try (rw [x10 (by assumption)]; rfl)
  all_goals try (rw [x18 (by assumption)]; rfl)
  all_goals try (rw [x19 (by assumption)]; rfl)
  all_goals try (rw [x20 (by assumption)])
  all_goals try (rw [x1 hpre1 (hform (by assumption))]; rfl)
  all_goals try (
    have q : i.op = 11 := by assumption
    have n1 : (if i.op = 13 ∨ i.op = 14 then (1 : Int) else 4) = 4 := if_neg (by omega)
    have n2 : (if i.op = 13 then (1 : Int) else 4) = 4 := if_neg (by omega)
    rw [x11 (.inl q)]
    simp only [n1, n2] at *
    first
      | (have c : (K.load m (K.ea m i) 4).2.cause = 0 := by assumption
         rw [if_pos c]; simp only [c, lz _ _ c]; rfl)
      | (rw [if_neg (show ¬ (K.load m (K.ea m i) 4).2.cause = 0 by assumption)]; first | done | rfl))
  all_goals try (
    have q : i.op = 13 := by assumption
    have n1 : (if i.op = 13 ∨ i.op = 14 then (1 : Int) else 4) = 1 := if_pos (by omega)
    have n2 : (if i.op = 13 then (1 : Int) else 4) = 1 := if_pos (by omega)
    rw [x11 (.inr q)]
    simp only [n1, n2] at *
    first
      | (have c : (K.load m (K.ea m i) 1).2.cause = 0 := by assumption
         rw [if_pos c]; simp only [c, lz _ _ c]; rfl)
      | (rw [if_neg (show ¬ (K.load m (K.ea m i) 1).2.cause = 0 by assumption)]; first | done | rfl))
  all_goals try (
    have q : i.op = 12 := by assumption
    have n1 : (if i.op = 13 ∨ i.op = 14 then (1 : Int) else 4) = 4 := if_neg (by omega)
    have n2 : (if i.op = 14 then (1 : Int) else 4) = 4 := if_neg (by omega)
    rw [x12 (.inl q)]
    simp only [n1, n2] at *
    first
      | (have c : (K.store m (K.ea m i) 4 (K.get m.core.regs i.rd)).2.cause = 0 := by assumption
         obtain ⟨s1, s2, s3, s4⟩ := ss (K.ea m i) 4 (K.get m.core.regs i.rd)
         rw [if_pos c]; simp only [c, sz _ _ _ c, s1]; simp only [K.wpc, s1])
      | (rw [if_neg (show ¬ (K.store m (K.ea m i) 4 (K.get m.core.regs i.rd)).2.cause = 0 by assumption)]; first | done | rfl))
  all_goals try (
    have q : i.op = 14 := by assumption
    have n1 : (if i.op = 13 ∨ i.op = 14 then (1 : Int) else 4) = 1 := if_pos (by omega)
    have n2 : (if i.op = 14 then (1 : Int) else 4) = 1 := if_pos (by omega)
    rw [x12 (.inr q)]
    simp only [n1, n2] at *
    first
      | (have c : (K.store m (K.ea m i) 1 (K.get m.core.regs i.rd)).2.cause = 0 := by assumption
         obtain ⟨s1, s2, s3, s4⟩ := ss (K.ea m i) 1 (K.get m.core.regs i.rd)
         rw [if_pos c]; simp only [c, sz _ _ _ c, s1]; simp only [K.wpc, s1])
      | (rw [if_neg (show ¬ (K.store m (K.ea m i) 1 (K.get m.core.regs i.rd)).2.cause = 0 by assumption)]; first | done | rfl))
  all_goals try (rw [x15 (by omega) (by omega), if_pos (by assumption)]; rfl)
  all_goals try (rw [x15 (by omega) (by omega), if_neg (by rw [show K.taken i.op (K.get m.core.regs i.rd) (K.get m.core.regs i.ra) = false by assumption]; decide)]; rfl)
  all_goals try (have := hform2 (by assumption); omega)
  all_goals try (exfalso; rename_i q; apply q; split <;> simp; done)
  all_goals try (exfalso; rename_i q; apply q; refine ⟨?_, hpre.2.2⟩; split <;> simp; done)
  
theorem c_exec_Execute : SpecOk EB_1_2 122 S_exec_Execute := spec_sig ok_exec_Execute (n := 60) fun ⟨m, i, ⟨⟩⟩ h hok => a_exec_Execute m i (of_decide_eq_true h) (ok_mach (okSL_head hok)) (ok_instr (okSL_head (okSL_tail hok)))
end

/-! step_StepNoTimer -/

def S_step_StepNoTimer : Spec := sig [.mach] [.mach, .trap] (fun (m, _) => K.plain m) (pre := fun (m, _) => decide (m.mem.length ≤ 1099511627776 ∧ m.out.length ≤ 1099511627776))
noncomputable def E_step_StepNoTimer : Env := EB_0_1_2.adds [(119, S_step_Current), (95, S_step_end), (120, S_isa_IsPrivileged), (121, S_priv_Execute), (122, S_exec_Execute)]

theorem ok_step_StepNoTimer : EnvOk E_step_StepNoTimer := okEB_0_1_2.adds (l := _) ⟨c_step_Current, (up_to_0_1_2 c_step_end), (up_to_0_1_2 c_isa_IsPrivileged), (up_to_0_1_2 c_priv_Execute), (up_1_2_to_0_1_2 c_exec_Execute), trivial⟩
theorem t_step_StepNoTimer (m : PMach) : evF E_step_StepNoTimer 60 96 (encArgs [.mach] (m, ())) = bif m.halted then (Tree.leaf (SV.tup [(SV.agg [(SV.arr IntKind.u32 16 m.core.regs), (SV.v (Value.int IntKind.u32 m.core.pc)), (SV.arr IntKind.u32 12 m.core.csr), (SV.rd ETy.u8 m.mem), (SV.v (Value.int IntKind.u64 m.time)), (SV.rd ETy.u8 m.out), (SV.v (Value.bool m.halted))]), (SV.agg [(SV.v (Value.int IntKind.i64 (0 : Int))), (SV.v (Value.int IntKind.u32 (0 : Int)))])])) else (Tree.letv (okO [AT.instr, AT.trap]) (K.cur m) fun x0 => (bif (bne x0.snd.cause (0 : Int)) then (Tree.letv (okO [AT.mach, AT.trap]) (K.endS m x0.snd) fun x1 => (Tree.leaf (SV.tup [(SV.agg [(SV.arr IntKind.u32 16 x1.fst.core.regs), (SV.v (Value.int IntKind.u32 x1.fst.core.pc)), (SV.arr IntKind.u32 12 x1.fst.core.csr), (SV.rd ETy.u8 x1.fst.mem), (SV.v (Value.int IntKind.u64 x1.fst.time)), (SV.rd ETy.u8 x1.fst.out), (SV.v (Value.bool x1.fst.halted))]), (SV.agg [(SV.v (Value.int IntKind.i64 x1.snd.cause)), (SV.v (Value.int IntKind.u32 x1.snd.tval))])]))) else (Tree.letv (okO [AT.b]) (K.privd x0.fst.op) fun x1 => (bif x1 then (bif (decide ((List.length m.out) ≤ 1099511627776)) then (Tree.letv (okO [AT.mach]) (K.priv m x0.fst) fun x2 => (Tree.letv (okO [AT.mach, AT.trap]) (K.endS x2 x0.snd) fun x3 => (Tree.leaf (SV.tup [(SV.agg [(SV.arr IntKind.u32 16 x3.fst.core.regs), (SV.v (Value.int IntKind.u32 x3.fst.core.pc)), (SV.arr IntKind.u32 12 x3.fst.core.csr), (SV.rd ETy.u8 x3.fst.mem), (SV.v (Value.int IntKind.u64
 x3.fst.time)), (SV.rd ETy.u8 x3.fst.out), (SV.v (Value.bool x3.fst.halted))]), (SV.agg [(SV.v (Value.int IntKind.i64 x3.snd.cause)), (SV.v (Value.int IntKind.u32 x3.snd.tval))])])))) else (Tree.fail)) else (bif (decide (And ((1 : Int) ≤ x0.fst.op) (And (x0.fst.op ≤ (20 : Int)) ((List.length m.mem) ≤ 1099511627776)))) then (Tree.letv (okO [AT.mach, AT.trap]) (K.exec m x0.fst) fun x2 => (Tree.letv (okO [AT.mach, AT.trap]) (K.endS x2.fst x2.snd) fun x3 => (Tree.leaf (SV.tup [(SV.agg [(SV.arr IntKind.u32 16 x3.fst.core.regs), (SV.v (Value.int IntKind.u32 x3.fst.core.pc)), (SV.arr IntKind.u32 12 x3.fst.core.csr), (SV.rd ETy.u8 x3.fst.mem), (SV.v (Value.int IntKind.u64 x3.fst.time)), (SV.rd ETy.u8 x3.fst.out), (SV.v (Value.bool x3.fst.halted))]), (SV.agg [(SV.v (Value.int IntKind.i64 x3.snd.cause)), (SV.v (Value.int IntKind.u32 x3.snd.tval))])])))) else (Tree.fail)))))) := by kernel_rfl
section
attribute [local irreducible] evF evFL evFLs
theorem a_step_StepNoTimer (m : PMach) (hpre : m.mem.length ≤ 1099511627776 ∧ m.out.length ≤ 1099511627776) (ok_m : okMach m) : (evF E_step_StepNoTimer 60 96 (encArgs [.mach] (m, ()))).ends fun out_ => decO [.mach, .trap] out_ = some (K.plain m) := by
  rw [t_step_StepNoTimer, Tree.ends_holds]
  have hmay := fun h => cur_may (m := m) h
  have hz := fun h => cur_zero (m := m) h
  simp only [Tree.holds_loop, Tree.holds_fork, Tree.holds_next, if_true, Tree.holds_cond, Tree.holds_letv, Tree.holds_leaf, Tree.holds_fail, decO, decA, decTup, decMach, decCore, decTrap, decInstr, decPart, decGuest, decConf, decEvent, decVcpu, decStep, bytesS, boolS, eventsS, intsS, guestsS, vcpusS, rowS, castL, Option.bind_some, Option.map_some, Option.some.injEq, Nat.beq_refl, beq_self_eq_true, Bool.and_self, cond_true, cond_false, eq_self, beq_iff_eq, beq_eq_false_iff_ne, bne_iff_ne, bne_eq_false_iff_eq, ne_eq, decide_eq_true_eq, decide_eq_false_iff_not, ble_true, ble_false, inRange_iff, inRange_false]
  unfold K.plain
  repeat' (first | refine drop_ok ?_ | intro _ | with_reducible apply And.intro)
  · rename_i h; rw [if_pos h]
  · rename_i h c; rw [if_neg (by rw [h]; decide), if_pos c]
  · rename_i h c p _; rw [if_neg (by rw [h]; decide), if_neg (by simp [c]), if_pos p, hz c]
  · omega
  · rename_i h c p _; rw [if_neg (by rw [h]; decide), if_neg (by simp [c]), if_neg (by rw [p]; decide)]
  · rename_i h c p q
    have hm := (hmay c).op
    apply q
    refine ⟨hm.1, ?_, hpre.1⟩
    have : ¬ (21 ≤ (K.cur m).1.op ∧ (K.cur m).1.op ≤ 25) := fun z => by rw [privd_range.2 z] at p; cases p
    omega
  
theorem c_step_StepNoTimer : SpecOk EB_0_1_2 96 S_step_StepNoTimer := spec_sig ok_step_StepNoTimer (n := 60) fun ⟨m, ⟨⟩⟩ h hok => a_step_StepNoTimer m (of_decide_eq_true h) (ok_mach (okSL_head hok))
end

/-! step_Step -/

def S_step_Step : Spec := sig [.mach] [.mach, .trap] (fun (m, _) => K.step m) (pre := fun (m, _) => decide (m.mem.length ≤ 1099511627776 ∧ m.out.length ≤ 1099511627776))
noncomputable def E_step_Step : Env := EB_0_1_2.adds [(94, S_fetch_TimerPending), (95, S_step_end), (96, S_step_StepNoTimer)]

theorem ok_step_Step : EnvOk E_step_Step := okEB_0_1_2.adds (l := _) ⟨(up_to_0_1_2 c_fetch_TimerPending), (up_to_0_1_2 c_step_end), c_step_StepNoTimer, trivial⟩
theorem t_step_Step (m : PMach) : evF E_step_Step 60 56 (encArgs [.mach] (m, ())) = bif m.halted then (bif (decide (And ((List.length m.mem) ≤ 1099511627776) ((List.length m.out) ≤ 1099511627776))) then (Tree.letv (okO [AT.mach, AT.trap]) (K.plain m) fun x0 => (Tree.leaf (SV.tup [(SV.agg [(SV.arr IntKind.u32 16 x0.fst.core.regs), (SV.v (Value.int IntKind.u32 x0.fst.core.pc)), (SV.arr IntKind.u32 12 x0.fst.core.csr), (SV.rd ETy.u8 x0.fst.mem), (SV.v (Value.int IntKind.u64 x0.fst.time)), (SV.rd ETy.u8 x0.fst.out), (SV.v (Value.bool x0.fst.halted))]), (SV.agg [(SV.v (Value.int IntKind.i64 x0.snd.cause)), (SV.v (Value.int IntKind.u32 x0.snd.tval))])]))) else (Tree.fail)) else (Tree.letv (okO [AT.b]) (K.due m) fun x0 => (bif x0 then (Tree.letv (okO [AT.mach, AT.trap]) (K.endS m (PTrap.mk (6 : Int) (0 : Int))) fun x1 => (Tree.leaf (SV.tup [(SV.agg [(SV.arr IntKind.u32 16 x1.fst.core.regs), (SV.v (Value.int IntKind.u32 x1.fst.core.pc)), (SV.arr IntKind.u32 12 x1.fst.core.csr), (SV.rd ETy.u8 x1.fst.mem), (SV.v (Value.int IntKind.u64 x1.fst.time)), (SV.rd ETy.u8 x1.fst.out), (SV.v (Value.bool x1.fst.halted))]), (SV.agg [(SV.v (Value.int IntKind.i64 x1.snd.cause)), (SV.v (Value.int IntKind.u32 x1.snd.tval))])]))) else (bif (decide (And ((List.length m.mem) ≤ 1099511627776) ((List.length m.out) ≤ 1099511627776))) then (Tree.letv (okO [AT.mach, AT.trap]) (K.plain m) fun x1 => (Tree.leaf (SV.tup [(SV.agg [(SV.arr IntKind.u32 16 x1.fst.core.regs), (SV.v (Value.int IntKind.u32
 x1.fst.core.pc)), (SV.arr IntKind.u32 12 x1.fst.core.csr), (SV.rd ETy.u8 x1.fst.mem), (SV.v (Value.int IntKind.u64 x1.fst.time)), (SV.rd ETy.u8 x1.fst.out), (SV.v (Value.bool x1.fst.halted))]), (SV.agg [(SV.v (Value.int IntKind.i64 x1.snd.cause)), (SV.v (Value.int IntKind.u32 x1.snd.tval))])]))) else (Tree.fail)))) := by kernel_rfl
section
attribute [local irreducible] evF evFL evFLs
theorem a_step_Step (m : PMach) (hpre : m.mem.length ≤ 1099511627776 ∧ m.out.length ≤ 1099511627776) (ok_m : okMach m) : (evF E_step_Step 60 56 (encArgs [.mach] (m, ()))).ends fun out_ => decO [.mach, .trap] out_ = some (K.step m) := by
  rw [t_step_Step, Tree.ends_holds]
  simp only [Tree.holds_loop, Tree.holds_fork, Tree.holds_next, if_true, Tree.holds_cond, Tree.holds_letv, Tree.holds_leaf, Tree.holds_fail, decO, decA, decTup, decMach, decCore, decTrap, decInstr, decPart, decGuest, decConf, decEvent, decVcpu, decStep, bytesS, boolS, eventsS, intsS, guestsS, vcpusS, rowS, castL, Option.bind_some, Option.map_some, Option.some.injEq, Nat.beq_refl, beq_self_eq_true, Bool.and_self, cond_true, cond_false, eq_self, beq_iff_eq, beq_eq_false_iff_ne, bne_iff_ne, bne_eq_false_iff_eq, ne_eq, decide_eq_true_eq, decide_eq_false_iff_not, ble_true, ble_false, inRange_iff, inRange_false]
  unfold K.step
  repeat' (first | refine drop_ok ?_ | intro _ | with_reducible apply And.intro)
  all_goals first | (simp_all; done) | omega
  
theorem c_step_Step : SpecOk EB_0_1_2 56 S_step_Step := spec_sig ok_step_Step (n := 60) fun ⟨m, ⟨⟩⟩ h hok => a_step_Step m (of_decide_eq_true h) (ok_mach (okSL_head hok))
end

/-! timeslice_until -/
@[reducible] def L_until (host : PMach) : LoopSpec where
  σ := PMach × Nat
  slots := [1, 2, 4, 6]
  keys := [1, 2, 4]
  vals := fun x => [.loc 0 0 0 1, .loc 1 0 0 1, .loc 2 0 0 1, .v (.int .i64 (x.2 : Int))]
  blks := fun x => [.cells (machC x.1) 30, .cells [.arr .u32 16 [0, 0, 0, 0, 0, 0, 0, 0, 0, 0, 0, 0, 0, 0, 0, 0], .v (.int .u32 0), .arr .u32 12 [0, 0, 0, 0, 0, 0, 0, 0, 0, 0, 0, 0], .v (.slice none 0 0), .v (.int .u64 0), .v (.slice none 0 0), .b false] 30, .cells [.v (.int .i64 0), .v (.int .u32 0)] 49]
  inv := fun x => x.2 < 1000 ∧ K.untl (1000 - x.2) x.1 (x.2 : Int) = K.untl 1000 host 0 ∧ K.User host x.1
  mu := fun x => 1000 - x.2
def S_timeslice_until : Spec := sig [.mach] [.mach, .i .i64, .trap, .i .u64] (fun (host, _) => K.until host) (pre := fun (host, _) => decide (K.stops host = true ∧ K.super host.core = false ∧ host.halted = false ∧ host.mem.length ≤ 1099511627776 ∧ host.out.length ≤ 1099511627776))
noncomputable def E_timeslice_until : Env := EB_0_1_2.adds [(56, S_step_Step)]

theorem ok_timeslice_until : EnvOk E_timeslice_until := okEB_0_1_2.adds (l := _) ⟨c_step_Step, trivial⟩
theorem t_timeslice_until (host : PMach) : evFL E_timeslice_until (fun _ => some (L_until host)) 60 31 (encArgs [.mach] (host, ())) = Tree.loop 0 (L_until host) [(SV.loc 0 0 0 1), (SV.loc 1 0 0 1), (SV.loc 2 0 0 1), (SV.v (Value.int IntKind.i64 (0 : Int)))] [(Blk.cells [(SV.arr IntKind.u32 16 host.core.regs), (SV.v (Value.int IntKind.u32 host.core.pc)), (SV.arr IntKind.u32 12 host.core.csr), (SV.rd ETy.u8 host.mem), (SV.v (Value.int IntKind.u64 host.time)), (SV.rd ETy.u8 host.out), (SV.v (Value.bool host.halted))] 30), (Blk.cells [(SV.arr IntKind.u32 16 [(0 : Int), (0 : Int), (0 : Int), (0 : Int), (0 : Int), (0 : Int), (0 : Int), (0 : Int), (0 : Int), (0 : Int), (0 : Int), (0 : Int), (0 : Int), (0 : Int), (0 : Int), (0 : Int)]), (SV.v (Value.int IntKind.u32 (0 : Int))), (SV.arr IntKind.u32 12 [(0 : Int), (0 : Int), (0 : Int), (0 : Int), (0 : Int), (0 : Int), (0 : Int), (0 : Int), (0 : Int), (0 : Int), (0 : Int), (0 : Int)]), (SV.v (Value.slice Option.none 0 0)), (SV.v (Value.int IntKind.u64 (0 : Int))), (SV.v (Value.slice Option.none 0 0)), (SV.b false)] 30), (Blk.cells [(SV.v (Value.int IntKind.i64 (0 : Int))), (SV.v (Value.int IntKind.u32 (0 : Int)))] 49)] fun (x0 : (Prod PMach Nat)) => (bif (decide (And ((List.length x0.fst.mem) ≤ 1099511627776) ((List.length x0.fst.out) ≤ 1099511627776))) then (Tree.letv (okO [AT.mach, AT.trap]) (K.step x0.fst) fun x1 => (bif (bne x1.snd.cause (0 : Int)) then (Tree.leaf (SV.tup [(SV.agg [(SV.arr IntKind.u32 16 x1.fst.core.regs), (SV.v
 (Value.int IntKind.u32 x1.fst.core.pc)), (SV.arr IntKind.u32 12 x1.fst.core.csr), (SV.rd ETy.u8 x1.fst.mem), (SV.v (Value.int IntKind.u64 x1.fst.time)), (SV.rd ETy.u8 x1.fst.out), (SV.v (Value.bool x1.fst.halted))]), (SV.v (Value.int IntKind.i64 (Int.ofNat x0.snd))), (SV.agg [(SV.v (Value.int IntKind.i64 x1.snd.cause)), (SV.v (Value.int IntKind.u32 x1.snd.tval))]), (SV.v (Value.int IntKind.u64 x0.fst.time))])) else ((Tree.next 0 [(SV.loc 0 0 0 1), (SV.loc 1 0 0 1), (SV.loc 2 0 0 1), (SV.v (Value.int IntKind.i64 (IntKind.wrap IntKind.i64 ((Int.ofNat x0.snd) + (1 : Int)))))] [(Blk.cells [(SV.arr IntKind.u32 16 x1.fst.core.regs), (SV.v (Value.int IntKind.u32 x1.fst.core.pc)), (SV.arr IntKind.u32 12 x1.fst.core.csr), (SV.rd ETy.u8 x1.fst.mem), (SV.v (Value.int IntKind.u64 x1.fst.time)), (SV.rd ETy.u8 x1.fst.out), (SV.v (Value.bool x1.fst.halted))] 30), (Blk.cells [(SV.arr IntKind.u32 16 [(0 : Int), (0 : Int), (0 : Int), (0 : Int), (0 : Int), (0 : Int), (0 : Int), (0 : Int), (0 : Int), (0 : Int), (0 : Int), (0 : Int), (0 : Int), (0 : Int), (0 : Int), (0 : Int)]), (SV.v (Value.int IntKind.u32 (0 : Int))), (SV.arr IntKind.u32 12 [(0 : Int), (0 : Int), (0 : Int), (0 : Int), (0 : Int), (0 : Int), (0 : Int), (0 : Int), (0 : Int), (0 : Int), (0 : Int), (0 : Int)]), (SV.v (Value.slice Option.none 0 0)), (SV.v (Value.int IntKind.u64 (0 : Int))), (SV.v (Value.slice Option.none 0 0)), (SV.b false)] 30), (Blk.cells [(SV.v (Value.int IntKind.i64 (0 : Int))), (SV.v (Value.int IntKind.u32 (0 :
 Int)))] 49)])))) else (Tree.fail)) := by kernel_rfl
section
attribute [local irreducible] evF evFL evFLs
theorem a_timeslice_until (host : PMach) (hpre : K.stops host = true ∧ K.super host.core = false ∧ host.halted = false ∧ host.mem.length ≤ 1099511627776 ∧ host.out.length ≤ 1099511627776) (ok_host : okMach host) : (evFL E_timeslice_until (fun _ => some (L_until host)) 60 31 (encArgs [.mach] (host, ()))).ends fun out_ => decO [.mach, .i .i64, .trap, .i .u64] out_ = some (K.until host) := by
  rw [t_timeslice_until, Tree.ends_holds]
  obtain ⟨hp1, hp2, hp3, hp4, hp5⟩ := hpre
  have hp1 : (K.untl 1000 host 0).isSome = true := hp1
  have hl := ok_host.core.csr.1
  rw [Tree.holds_loop]
  refine ⟨⟨((host, 0) : PMach × Nat), rfl, rfl, ⟨by show (0 : Nat) < 1000; omega, rfl, ⟨hl, hp2, hp3, rfl, rfl⟩⟩, trivial⟩, fun (x : PMach × Nat) hx => ?_⟩
  obtain ⟨h, j⟩ := x
  obtain ⟨i1, i2, i3⟩ := hx
  have i1 : j < 1000 := i1
  have i2 : K.untl (1000 - j) h (j : Int) = K.untl 1000 host 0 := i2
  have i3 : K.User host h := i3
  have hu : K.until host = (K.untl 1000 host 0).getD (host, 0, ⟨0, 0⟩, 0) := rfl
  have at_ : ∀ (y : PMach × Nat), y.2 < 1000 → K.untl (1000 - y.2) y.1 (y.2 : Int) = K.untl 1000 host 0 → K.User host y.1 → 1000 - y.2 < 1000 - j → ∀ w : Int, w = (y.2 : Int) → (L_until host).at (fun y => (L_until host).mu y < (L_until host).mu (h, j)) [.loc 0 0 0 1, .loc 1 0 0 1, .loc 2 0 0 1, .v (.int .i64 w)] [.cells (machC y.1) 30, .cells [.arr .u32 16 [0, 0, 0, 0, 0, 0, 0, 0, 0, 0, 0, 0, 0, 0, 0, 0], .v (.int .u32 0), .arr .u32 12 [0, 0, 0, 0, 0, 0, 0, 0, 0, 0, 0, 0], .v (.slice none 0 0), .v (.int .u64 0), .v (.slice none 0 0), .b false] 30, .cells [.v (.int .i64 0), .v (.int .u32 0)] 49] := fun y h1 h2 h3 h4 w hw => by
    subst hw; exact ⟨y, rfl, rfl, ⟨h1, h2, h3⟩, h4⟩
  generalize K.untl 1000 host 0 = R at *
  rw [show 1000 - j = (999 - j) + 1 by omega, untl_succ] at i2
  have w1 : IntKind.i64.wrap ((j : Int) + 1) = ((j + 1 : Nat) : Int) := by rw [wrapI64 (by omega) (by omega)]; rfl
  have m1 := i3.mem
  have m2 := i3.out
  simp only [Tree.holds_loop, Tree.holds_fork, Tree.holds_next, if_true, Tree.holds_cond, Tree.holds_letv, Tree.holds_leaf, Tree.holds_fail, decO, decA, decTup, decMach, decCore, decTrap, decInstr, decPart, decGuest, decConf, decEvent, decVcpu, decStep, bytesS, boolS, eventsS, intsS, guestsS, vcpusS, rowS, castL, Option.bind_some, Option.map_some, Option.some.injEq, Nat.beq_refl, beq_self_eq_true, Bool.and_self, cond_true, cond_false, eq_self, beq_iff_eq, beq_eq_false_iff_ne, bne_iff_ne, bne_eq_false_iff_eq, ne_eq, decide_eq_true_eq, decide_eq_false_iff_not, ble_true, ble_false, inRange_iff, inRange_false, Int.ofNat_eq_natCast, w1]
  by_cases hc : (K.step h).2.cause = 0
  · rw [if_pos hc] at i2
    repeat' (first | refine drop_ok ?_ | intro _ | with_reducible apply And.intro)
    all_goals first
      | (exfalso; omega)
      | (refine at_ ((K.step h).1, j + 1) ?_ ?_ (i3.step hc) ?_ _ rfl
         · show j + 1 < 1000
           rcases Nat.lt_or_ge (j + 1) 1000 with q | q
           · exact q
           · rw [show 999 - j = 0 by omega] at i2
             simp only [K.untl] at i2
             rw [← i2] at hp1; cases hp1
         · show K.untl (1000 - (j + 1)) (K.step h).1 ((j + 1 : Nat) : Int) = R
           rw [show 1000 - (j + 1) = 999 - j by omega]; exact i2
         · show 1000 - (j + 1) < 1000 - j; omega)
      | (exact absurd hc (by assumption))
      | trace_state
  · rw [if_neg hc] at i2
    repeat' (first | refine drop_ok ?_ | intro _ | with_reducible apply And.intro)
    all_goals first
      | (exfalso; omega)
      | (exact absurd (by assumption) hc)
      | (rw [hu, ← i2]; rfl)
      | trace_state
  
theorem c_timeslice_until : SpecOk EB_0_1_2 31 S_timeslice_until := spec_sigL ok_timeslice_until (n := 60) (fun (host, _) => fun _ => some (L_until host)) fun ⟨host, ⟨⟩⟩ h hok => a_timeslice_until host (of_decide_eq_true h) (ok_mach (okSL_head hok))
end

/-! save_Save -/

def S_save_Save : Spec := sig [.mach, .vcpu] [.vcpu] (fun (host, v, _) => K.save host v)
noncomputable def E_save_Save : Env := EB.adds [(62, S_regs_ClearZero)]

theorem ok_save_Save : EnvOk E_save_Save := okEB.adds (l := _) ⟨c_regs_ClearZero, trivial⟩
theorem t_save_Save (host : PMach) (v : PVcpu) : evF E_save_Save 60 34 (encArgs [.mach, .vcpu] (host, v, ())) = Tree.letv (okO [(AT.a IntKind.u32 16)]) (List.set host.core.regs 0 (0 : Int)) fun x0 => (Tree.leaf (SV.agg [(SV.arr IntKind.u32 16 x0), (SV.v (Value.int IntKind.u32 (List.getD host.core.csr 1 (0 : Int)))), (SV.arr IntKind.u32 12 v.core.csr), (SV.rd ETy.u8 v.out), (SV.v (Value.bool v.halted)), (SV.v (Value.int IntKind.i64 v.done)), (SV.rd ETy.event v.log)])) := by kernel_rfl
section
attribute [local irreducible] evF evFL evFLs
theorem a_save_Save (host : PMach) (v : PVcpu) (ok_host : okMach host) (ok_v : okVcpu v) : (evF E_save_Save 60 34 (encArgs [.mach, .vcpu] (host, v, ()))).ends fun out_ => decO [.vcpu] out_ = some (K.save host v) := by
  rw [t_save_Save, Tree.ends_holds]
  simp only [Tree.holds_loop, Tree.holds_fork, Tree.holds_next, if_true, Tree.holds_cond, Tree.holds_letv, Tree.holds_leaf, Tree.holds_fail, decO, decA, decTup, decMach, decCore, decTrap, decInstr, decPart, decGuest, decConf, decEvent, decVcpu, decStep, bytesS, boolS, eventsS, intsS, guestsS, vcpusS, rowS, castL, Option.bind_some, Option.map_some, Option.some.injEq, Nat.beq_refl, beq_self_eq_true, Bool.and_self, cond_true, cond_false, eq_self, beq_iff_eq, beq_eq_false_iff_ne, bne_iff_ne, bne_eq_false_iff_eq, ne_eq, decide_eq_true_eq, decide_eq_false_iff_not, ble_true, ble_false, inRange_iff, inRange_false, K.save]
  repeat' (first | refine drop_ok ?_ | intro _ | with_reducible apply And.intro)
  all_goals first | trivial | rfl | (simp_all; done) | trace_state
  
theorem c_save_Save : SpecOk EB 34 S_save_Save := spec_sig ok_save_Save (n := 60) fun ⟨host, v, ⟨⟩⟩ h hok => a_save_Save host v (ok_mach (okSL_head hok)) (ok_vcpu (okSL_head (okSL_tail hok)))
end

/-! handler_IsMonitorTrap -/

def S_handler_IsMonitorTrap : Spec := sig [.trap] [.b] (fun (t, _) => K.ours t)
noncomputable def E_handler_IsMonitorTrap : Env := EB.adds []

theorem ok_handler_IsMonitorTrap : EnvOk E_handler_IsMonitorTrap := okEB.adds (l := _) trivial
theorem t_handler_IsMonitorTrap (t : PTrap) : evF E_handler_IsMonitorTrap 60 102 (encArgs [.trap] (t, ())) = bif (BEq.beq t.cause (6 : Int)) then (Tree.leaf (SV.b true)) else (bif (BEq.beq t.cause (0 : Int)) then (Tree.leaf (SV.b true)) else (Tree.leaf (SV.b false))) := by kernel_rfl
section
attribute [local irreducible] evF evFL evFLs
theorem a_handler_IsMonitorTrap (t : PTrap) (ok_t : okTrap t) : (evF E_handler_IsMonitorTrap 60 102 (encArgs [.trap] (t, ()))).ends fun out_ => decO [.b] out_ = some (K.ours t) := by
  rw [t_handler_IsMonitorTrap, Tree.ends_holds]
  simp only [Tree.holds_loop, Tree.holds_fork, Tree.holds_next, if_true, Tree.holds_cond, Tree.holds_letv, Tree.holds_leaf, Tree.holds_fail, decO, decA, decTup, decMach, decCore, decTrap, decInstr, decPart, decGuest, decConf, decEvent, decVcpu, decStep, bytesS, boolS, eventsS, intsS, guestsS, vcpusS, rowS, castL, Option.bind_some, Option.map_some, Option.some.injEq, Nat.beq_refl, beq_self_eq_true, Bool.and_self, cond_true, cond_false, eq_self, beq_iff_eq, beq_eq_false_iff_ne, bne_iff_ne, bne_eq_false_iff_eq, ne_eq, decide_eq_true_eq, decide_eq_false_iff_not, ble_true, ble_false, inRange_iff, inRange_false, K.ours]
  repeat' (first | refine drop_ok ?_ | intro _ | with_reducible apply And.intro)
  all_goals first | omega | (simp_all; done)
  
theorem c_handler_IsMonitorTrap : SpecOk EB 102 S_handler_IsMonitorTrap := spec_sig ok_handler_IsMonitorTrap (n := 60) fun ⟨t, ⟨⟩⟩ h hok => a_handler_IsMonitorTrap t (ok_trap (okSL_head hok))
end

/-! emul_of -/

def S_emul_of : Spec := sig [.i .u32] [.instr, .b] (fun (w, _) => ((K.decode w).1, K.isPriv w))
noncomputable def E_emul_of : Env := EB_0_1.adds [(133, S_isa_Decode), (120, S_isa_IsPrivileged)]

theorem ok_emul_of : EnvOk E_emul_of := okEB_0_1.adds (l := _) ⟨c_isa_Decode, (up_to_0_1 c_isa_IsPrivileged), trivial⟩
theorem t_emul_of (w : Int) : evF E_emul_of 60 123 (encArgs [.i .u32] (w, ())) = Tree.letv (okO [AT.instr, AT.b]) (K.decode w) fun x0 => (bif x0.snd then (Tree.letv (okO [AT.b]) (K.privd x0.fst.op) fun x1 => (bif x1 then (Tree.leaf (SV.tup [(SV.agg [(SV.v (Value.int IntKind.i64 x0.fst.op)), (SV.v (Value.int IntKind.i64 x0.fst.rd)), (SV.v (Value.int IntKind.i64 x0.fst.ra)), (SV.v (Value.int IntKind.i64 x0.fst.rb)), (SV.v (Value.int IntKind.i32 x0.fst.imm))]), (SV.b true)])) else (Tree.leaf (SV.tup [(SV.agg [(SV.v (Value.int IntKind.i64 x0.fst.op)), (SV.v (Value.int IntKind.i64 x0.fst.rd)), (SV.v (Value.int IntKind.i64 x0.fst.ra)), (SV.v (Value.int IntKind.i64 x0.fst.rb)), (SV.v (Value.int IntKind.i32 x0.fst.imm))]), (SV.b false)])))) else (Tree.leaf (SV.tup [(SV.agg [(SV.v (Value.int IntKind.i64 x0.fst.op)), (SV.v (Value.int IntKind.i64 x0.fst.rd)), (SV.v (Value.int IntKind.i64 x0.fst.ra)), (SV.v (Value.int IntKind.i64 x0.fst.rb)), (SV.v (Value.int IntKind.i32 x0.fst.imm))]), (SV.b false)]))) := by kernel_rfl
section
attribute [local irreducible] evF evFL evFLs
theorem a_emul_of (w : Int) (ok_w : okI .u32 w) : (evF E_emul_of 60 123 (encArgs [.i .u32] (w, ()))).ends fun out_ => decO [.instr, .b] out_ = some (((K.decode w).1, K.isPriv w)) := by
  rw [t_emul_of, Tree.ends_holds]
  simp only [Tree.holds_loop, Tree.holds_fork, Tree.holds_next, if_true, Tree.holds_cond, Tree.holds_letv, Tree.holds_leaf, Tree.holds_fail, decO, decA, decTup, decMach, decCore, decTrap, decInstr, decPart, decGuest, decConf, decEvent, decVcpu, decStep, bytesS, boolS, eventsS, intsS, guestsS, vcpusS, rowS, castL, Option.bind_some, Option.map_some, Option.some.injEq, Nat.beq_refl, beq_self_eq_true, Bool.and_self, cond_true, cond_false, eq_self, beq_iff_eq, beq_eq_false_iff_ne, bne_iff_ne, bne_eq_false_iff_eq, ne_eq, decide_eq_true_eq, decide_eq_false_iff_not, ble_true, ble_false, inRange_iff, inRange_false, K.isPriv]
  repeat' (first | refine drop_ok ?_ | intro _ | with_reducible apply And.intro)
  all_goals simp_all
  
theorem c_emul_of : SpecOk EB_0_1 123 S_emul_of := spec_sig ok_emul_of (n := 60) fun ⟨w, ⟨⟩⟩ h hok => a_emul_of w (ok_int (okSL_head hok))
end

/-! emul_CanEmulate -/

def S_emul_CanEmulate : Spec := sig [.vcpu, .trap] [.b] (fun (v, t, _) => K.can v t)
noncomputable def E_emul_CanEmulate : Env := EB_0_1.adds [(123, S_emul_of), (124, S_trap_IsSupervisor)]

theorem ok_emul_CanEmulate : EnvOk E_emul_CanEmulate := okEB_0_1.adds (l := _) ⟨c_emul_of, (up_to_0_1 c_trap_IsSupervisor), trivial⟩
theorem t_emul_CanEmulate (v : PVcpu) (t : PTrap) : evF E_emul_CanEmulate 60 104 (encArgs [.vcpu, .trap] (v, t, ())) = Tree.letv (okO [AT.instr, AT.b]) ((K.decode t.tval).fst, (K.isPriv t.tval)) fun x0 => (bif x0.snd then (bif (BEq.beq t.cause (2 : Int)) then (Tree.letv (okO [AT.b]) (K.super v.core) fun x1 => (bif x1 then (Tree.leaf (SV.b true)) else (Tree.leaf (SV.b false)))) else (Tree.leaf (SV.b false))) else (Tree.leaf (SV.b false))) := by kernel_rfl
section
attribute [local irreducible] evF evFL evFLs
theorem a_emul_CanEmulate (v : PVcpu) (t : PTrap) (ok_v : okVcpu v) (ok_t : okTrap t) : (evF E_emul_CanEmulate 60 104 (encArgs [.vcpu, .trap] (v, t, ()))).ends fun out_ => decO [.b] out_ = some (K.can v t) := by
  rw [t_emul_CanEmulate, Tree.ends_holds]
  simp only [Tree.holds_loop, Tree.holds_fork, Tree.holds_next, if_true, Tree.holds_cond, Tree.holds_letv, Tree.holds_leaf, Tree.holds_fail, decO, decA, decTup, decMach, decCore, decTrap, decInstr, decPart, decGuest, decConf, decEvent, decVcpu, decStep, bytesS, boolS, eventsS, intsS, guestsS, vcpusS, rowS, castL, Option.bind_some, Option.map_some, Option.some.injEq, Nat.beq_refl, beq_self_eq_true, Bool.and_self, cond_true, cond_false, eq_self, beq_iff_eq, beq_eq_false_iff_ne, bne_iff_ne, bne_eq_false_iff_eq, ne_eq, decide_eq_true_eq, decide_eq_false_iff_not, ble_true, ble_false, inRange_iff, inRange_false, K.can]
  repeat' (first | refine drop_ok ?_ | intro _ | with_reducible apply And.intro)
  all_goals simp_all
  
theorem c_emul_CanEmulate : SpecOk EB_0_1 104 S_emul_CanEmulate := spec_sig ok_emul_CanEmulate (n := 60) fun ⟨v, t, ⟨⟩⟩ h hok => a_emul_CanEmulate v t (ok_vcpu (okSL_head hok)) (ok_trap (okSL_head (okSL_tail hok)))
end

/-! priv_ReadsTime -/

def S_priv_ReadsTime : Spec := sig [.instr] [.b] (fun (i, _) => K.reads i)
noncomputable def E_priv_ReadsTime : Env := EB.adds []

theorem ok_priv_ReadsTime : EnvOk E_priv_ReadsTime := okEB.adds (l := _) trivial
theorem t_priv_ReadsTime (i : PInstr) : evF E_priv_ReadsTime 60 125 (encArgs [.instr] (i, ())) = bif (BEq.beq i.op (21 : Int)) then (bif (BEq.beq i.imm (7 : Int)) then (Tree.leaf (SV.b true)) else (bif (BEq.beq i.imm (8 : Int)) then (Tree.leaf (SV.b true)) else (Tree.leaf (SV.b false)))) else (Tree.leaf (SV.b false)) := by kernel_rfl
section
attribute [local irreducible] evF evFL evFLs
theorem a_priv_ReadsTime (i : PInstr) (ok_i : okInstr i) : (evF E_priv_ReadsTime 60 125 (encArgs [.instr] (i, ()))).ends fun out_ => decO [.b] out_ = some (K.reads i) := by
  rw [t_priv_ReadsTime, Tree.ends_holds]
  simp only [Tree.holds_loop, Tree.holds_fork, Tree.holds_next, if_true, Tree.holds_cond, Tree.holds_letv, Tree.holds_leaf, Tree.holds_fail, decO, decA, decTup, decMach, decCore, decTrap, decInstr, decPart, decGuest, decConf, decEvent, decVcpu, decStep, bytesS, boolS, eventsS, intsS, guestsS, vcpusS, rowS, castL, Option.bind_some, Option.map_some, Option.some.injEq, Nat.beq_refl, beq_self_eq_true, Bool.and_self, cond_true, cond_false, eq_self, beq_iff_eq, beq_eq_false_iff_ne, bne_iff_ne, bne_eq_false_iff_eq, ne_eq, decide_eq_true_eq, decide_eq_false_iff_not, ble_true, ble_false, inRange_iff, inRange_false]
  repeat' (first | refine drop_ok ?_ | intro _ | with_reducible apply And.intro)
  all_goals simp_all [K.reads]
  
theorem c_priv_ReadsTime : SpecOk EB 125 S_priv_ReadsTime := spec_sig ok_priv_ReadsTime (n := 60) fun ⟨i, ⟨⟩⟩ h hok => a_priv_ReadsTime i (ok_instr (okSL_head hok))
end

/-! emul_seen -/

def S_emul_seen : Spec := sig [.instr, .i .i64, .i .u64] [.event] (fun (i, at_, time, _) => K.seen i at_ time)
noncomputable def E_emul_seen : Env := EB.adds []

theorem ok_emul_seen : EnvOk E_emul_seen := okEB.adds (l := _) trivial
theorem t_emul_seen (i : PInstr) (at_ : Int) (time : Int) : evF E_emul_seen 60 126 (encArgs [.instr, .i .i64, .i .u64] (i, at_, time, ())) = bif (BEq.beq i.imm (8 : Int)) then (Tree.leaf (SV.agg [(SV.v (Value.int IntKind.i64 (3 : Int))), (SV.v (Value.int IntKind.i64 at_)), (SV.v (Value.int IntKind.u64 time))])) else (Tree.leaf (SV.agg [(SV.v (Value.int IntKind.i64 (2 : Int))), (SV.v (Value.int IntKind.i64 at_)), (SV.v (Value.int IntKind.u64 time))])) := by kernel_rfl
section
attribute [local irreducible] evF evFL evFLs
theorem a_emul_seen (i : PInstr) (at_ : Int) (time : Int) (ok_i : okInstr i) (ok_at_ : okI .i64 at_) (ok_time : okI .u64 time) : (evF E_emul_seen 60 126 (encArgs [.instr, .i .i64, .i .u64] (i, at_, time, ()))).ends fun out_ => decO [.event] out_ = some (K.seen i at_ time) := by
  rw [t_emul_seen, Tree.ends_holds]
  simp only [Tree.holds_loop, Tree.holds_fork, Tree.holds_next, if_true, Tree.holds_cond, Tree.holds_letv, Tree.holds_leaf, Tree.holds_fail, decO, decA, decTup, decMach, decCore, decTrap, decInstr, decPart, decGuest, decConf, decEvent, decVcpu, decStep, bytesS, boolS, eventsS, intsS, guestsS, vcpusS, rowS, castL, Option.bind_some, Option.map_some, Option.some.injEq, Nat.beq_refl, beq_self_eq_true, Bool.and_self, cond_true, cond_false, eq_self, beq_iff_eq, beq_eq_false_iff_ne, bne_iff_ne, bne_eq_false_iff_eq, ne_eq, decide_eq_true_eq, decide_eq_false_iff_not, ble_true, ble_false, inRange_iff, inRange_false, K.seen]
  repeat' (first | refine drop_ok ?_ | intro _ | with_reducible apply And.intro)
  all_goals simp_all
  
theorem c_emul_seen : SpecOk EB 126 S_emul_seen := spec_sig ok_emul_seen (n := 60) fun ⟨i, at_, time, ⟨⟩⟩ h hok => a_emul_seen i at_ time (ok_instr (okSL_head hok)) (ok_int (okSL_head (okSL_tail hok))) (ok_int (okSL_head (okSL_tail (okSL_tail hok))))
end

/-! vcpu_WithMachine -/

def S_vcpu_WithMachine : Spec := sig [.vcpu, .mach] [.vcpu] (fun (v, m, _) => K.vwith v m)
noncomputable def E_vcpu_WithMachine : Env := EB.adds []

theorem ok_vcpu_WithMachine : EnvOk E_vcpu_WithMachine := okEB.adds (l := _) trivial
theorem t_vcpu_WithMachine (v : PVcpu) (m : PMach) : evF E_vcpu_WithMachine 60 127 (encArgs [.vcpu, .mach] (v, m, ())) = bif m.halted then (Tree.leaf (SV.agg [(SV.arr IntKind.u32 16 m.core.regs), (SV.v (Value.int IntKind.u32 m.core.pc)), (SV.arr IntKind.u32 12 m.core.csr), (SV.rd ETy.u8 m.out), (SV.b true), (SV.v (Value.int IntKind.i64 v.done)), (SV.rd ETy.event v.log)])) else (Tree.leaf (SV.agg [(SV.arr IntKind.u32 16 m.core.regs), (SV.v (Value.int IntKind.u32 m.core.pc)), (SV.arr IntKind.u32 12 m.core.csr), (SV.rd ETy.u8 m.out), (SV.b false), (SV.v (Value.int IntKind.i64 v.done)), (SV.rd ETy.event v.log)])) := by kernel_rfl
section
attribute [local irreducible] evF evFL evFLs
theorem a_vcpu_WithMachine (v : PVcpu) (m : PMach) (ok_v : okVcpu v) (ok_m : okMach m) : (evF E_vcpu_WithMachine 60 127 (encArgs [.vcpu, .mach] (v, m, ()))).ends fun out_ => decO [.vcpu] out_ = some (K.vwith v m) := by
  rw [t_vcpu_WithMachine, Tree.ends_holds]
  simp only [Tree.holds_loop, Tree.holds_fork, Tree.holds_next, if_true, Tree.holds_cond, Tree.holds_letv, Tree.holds_leaf, Tree.holds_fail, decO, decA, decTup, decMach, decCore, decTrap, decInstr, decPart, decGuest, decConf, decEvent, decVcpu, decStep, bytesS, boolS, eventsS, intsS, guestsS, vcpusS, rowS, castL, Option.bind_some, Option.map_some, Option.some.injEq, Nat.beq_refl, beq_self_eq_true, Bool.and_self, cond_true, cond_false, eq_self, K.vwith]
  cases m.halted <;> simp
  
theorem c_vcpu_WithMachine : SpecOk EB 127 S_vcpu_WithMachine := spec_sig ok_vcpu_WithMachine (n := 60) fun ⟨v, m, ⟨⟩⟩ h hok => a_vcpu_WithMachine v m (ok_vcpu (okSL_head hok)) (ok_mach (okSL_head (okSL_tail hok)))
end

/-! vcpu_Machine -/

def S_vcpu_Machine : Spec := sig [.vcpu, .rd .u8, .i .u64] [.mach] (fun (v, mem, time, _) => K.vmach v mem time)
noncomputable def E_vcpu_Machine : Env := EB.adds []

theorem ok_vcpu_Machine : EnvOk E_vcpu_Machine := okEB.adds (l := _) trivial
theorem t_vcpu_Machine (v : PVcpu) (mem : List Int) (time : Int) : evF E_vcpu_Machine 60 18 (encArgs [.vcpu, .rd .u8, .i .u64] (v, mem, time, ())) = bif v.halted then (Tree.leaf (SV.agg [(SV.arr IntKind.u32 16 v.core.regs), (SV.v (Value.int IntKind.u32 v.core.pc)), (SV.arr IntKind.u32 12 v.core.csr), (SV.rd ETy.u8 mem), (SV.v (Value.int IntKind.u64 time)), (SV.rd ETy.u8 v.out), (SV.b true)])) else (Tree.leaf (SV.agg [(SV.arr IntKind.u32 16 v.core.regs), (SV.v (Value.int IntKind.u32 v.core.pc)), (SV.arr IntKind.u32 12 v.core.csr), (SV.rd ETy.u8 mem), (SV.v (Value.int IntKind.u64 time)), (SV.rd ETy.u8 v.out), (SV.b false)])) := by kernel_rfl
section
attribute [local irreducible] evF evFL evFLs
theorem a_vcpu_Machine (v : PVcpu) (mem : List Int) (time : Int) (ok_v : okVcpu v) (ok_mem : okBytes mem) (ok_time : okI .u64 time) : (evF E_vcpu_Machine 60 18 (encArgs [.vcpu, .rd .u8, .i .u64] (v, mem, time, ()))).ends fun out_ => decO [.mach] out_ = some (K.vmach v mem time) := by
  rw [t_vcpu_Machine, Tree.ends_holds]
  simp only [Tree.holds_loop, Tree.holds_fork, Tree.holds_next, if_true, Tree.holds_cond, Tree.holds_letv, Tree.holds_leaf, Tree.holds_fail, decO, decA, decTup, decMach, decCore, decTrap, decInstr, decPart, decGuest, decConf, decEvent, decVcpu, decStep, bytesS, boolS, eventsS, intsS, guestsS, vcpusS, rowS, castL, Option.bind_some, Option.map_some, Option.some.injEq, Nat.beq_refl, beq_self_eq_true, Bool.and_self, cond_true, cond_false, eq_self, K.vmach]
  cases v.halted <;> simp
  
theorem c_vcpu_Machine : SpecOk EB 18 S_vcpu_Machine := spec_sig ok_vcpu_Machine (n := 60) fun ⟨v, mem, time, ⟨⟩⟩ h hok => a_vcpu_Machine v mem time (ok_vcpu (okSL_head hok)) (ok_bytes (okSL_head (okSL_tail hok))) (ok_int (okSL_head (okSL_tail (okSL_tail hok))))
end

/-! emul_Emulate -/

def S_emul_Emulate : Spec := sig [.vcpu, .i .u32, .i .u64] [.vcpu] (fun (v, w, time, _) => K.emu v w time) (pre := fun (v, w, time, _) => decide (v.out.length ≤ 1099511627776 ∧ v.log.length ≤ 1099511627776))
noncomputable def E_emul_Emulate : Env := EB_0_1.adds [(123, S_emul_of), (125, S_priv_ReadsTime), (126, S_emul_seen), (127, S_vcpu_WithMachine), (121, S_priv_Execute), (18, S_vcpu_Machine)]

theorem ok_emul_Emulate : EnvOk E_emul_Emulate := okEB_0_1.adds (l := _) ⟨c_emul_of, (up_to_0_1 c_priv_ReadsTime), (up_to_0_1 c_emul_seen), (up_to_0_1 c_vcpu_WithMachine), (up_to_0_1 c_priv_Execute), (up_to_0_1 c_vcpu_Machine), trivial⟩
theorem t_emul_Emulate (v : PVcpu) (w : Int) (time : Int) : evF E_emul_Emulate 60 106 (encArgs [.vcpu, .i .u32, .i .u64] (v, w, time, ())) = Tree.letv (okO [AT.instr, AT.b]) ((K.decode w).fst, (K.isPriv w)) fun x0 => (bif x0.snd then (Tree.letv (okO [AT.b]) (K.reads x0.fst) fun x1 => (bif x1 then (bif (Bool.and (decide ((0 : Int) ≤ (Int.ofNat (List.length v.log)))) (Bool.and (decide ((Int.ofNat (List.length v.log)) ≤ (Int.ofNat (List.length v.log)))) (decide ((Int.ofNat (List.length v.log)) = (Int.ofNat (List.length v.log)))))) then (Tree.letv (okO [AT.event]) (K.seen x0.fst v.done time) fun x2 => (bif (Nat.ble (((List.length (List.drop 0 (List.take (Int.toNat (Int.ofNat (List.length v.log))) v.log))) + 1) * 24) 140737488355328) then (Tree.letv (okO [AT.mach]) (K.vmach (PVcpu.mk v.core v.out v.halted v.done (List.append (List.drop 0 (List.take (Int.toNat (Int.ofNat (List.length v.log))) v.log)) [x2])) [] time) fun x3 => (bif (decide ((List.length x3.out) ≤ 1099511627776)) then (Tree.letv (okO [AT.mach]) (K.priv x3 x0.fst) fun x4 => (Tree.letv (okO [AT.vcpu]) (K.vwith (PVcpu.mk v.core v.out v.halted v.done (List.append (List.drop 0 (List.take (Int.toNat (Int.ofNat (List.length v.log))) v.log)) [x2])) x4) fun x5 => (Tree.leaf (SV.agg [(SV.arr IntKind.u32 16 x5.core.regs), (SV.v (Value.int IntKind.u32 x5.core.pc)), (SV.arr IntKind.u32 12 x5.core.csr), (SV.rd ETy.u8 x5.out), (SV.v (Value.bool x5.halted)), (SV.v (Value.int IntKind.i64 (IntKind.wrap IntKind.i64 (x5.done + (1 :
 Int))))), (SV.rd ETy.event x5.log)])))) else (Tree.fail))) else (Tree.fail))) else (Tree.fail)) else (Tree.letv (okO [AT.mach]) (K.vmach v [] time) fun x2 => (bif (decide ((List.length x2.out) ≤ 1099511627776)) then (Tree.letv (okO [AT.mach]) (K.priv x2 x0.fst) fun x3 => (Tree.letv (okO [AT.vcpu]) (K.vwith v x3) fun x4 => (Tree.leaf (SV.agg [(SV.arr IntKind.u32 16 x4.core.regs), (SV.v (Value.int IntKind.u32 x4.core.pc)), (SV.arr IntKind.u32 12 x4.core.csr), (SV.rd ETy.u8 x4.out), (SV.v (Value.bool x4.halted)), (SV.v (Value.int IntKind.i64 (IntKind.wrap IntKind.i64 (x4.done + (1 : Int))))), (SV.rd ETy.event x4.log)])))) else (Tree.fail))))) else (Tree.leaf (SV.agg [(SV.arr IntKind.u32 16 v.core.regs), (SV.v (Value.int IntKind.u32 v.core.pc)), (SV.arr IntKind.u32 12 v.core.csr), (SV.rd ETy.u8 v.out), (SV.v (Value.bool v.halted)), (SV.v (Value.int IntKind.i64 v.done)), (SV.rd ETy.event v.log)]))) := by kernel_rfl
section
attribute [local irreducible] evF evFL evFLs
theorem a_emul_Emulate (v : PVcpu) (w : Int) (time : Int) (hpre : v.out.length ≤ 1099511627776 ∧ v.log.length ≤ 1099511627776) (ok_v : okVcpu v) (ok_w : okI .u32 w) (ok_time : okI .u64 time) : (evF E_emul_Emulate 60 106 (encArgs [.vcpu, .i .u32, .i .u64] (v, w, time, ()))).ends fun out_ => decO [.vcpu] out_ = some (K.emu v w time) := by
  rw [t_emul_Emulate, Tree.ends_holds]
  simp only [Tree.holds_loop, Tree.holds_fork, Tree.holds_next, if_true, Tree.holds_cond, Tree.holds_letv, Tree.holds_leaf, Tree.holds_fail, decO, decA, decTup, decMach, decCore, decTrap, decInstr, decPart, decGuest, decConf, decEvent, decVcpu, decStep, bytesS, boolS, eventsS, intsS, guestsS, vcpusS, rowS, castL, Option.bind_some, Option.map_some, Option.some.injEq, Nat.beq_refl, beq_self_eq_true, Bool.and_self, cond_true, cond_false, eq_self, beq_iff_eq, beq_eq_false_iff_ne, bne_iff_ne, bne_eq_false_iff_eq, ne_eq, decide_eq_true_eq, decide_eq_false_iff_not, ble_true, ble_false, inRange_iff, inRange_false, List.drop_zero, Int.ofNat_eq_natCast, Int.toNat_natCast, List.take_length, List.append_eq, Bool.and_eq_true, decide_true, and_true, true_and, K.vwith, K.vmach, wrap_inc ok_v.done]
  have e1 : K.isPriv w = true → K.emu v w time = (let i := (K.decode w).1; let m := K.priv (K.vmach v [] time) i; { core := m.core, out := m.out, halted := m.halted, done := K.inc v.done, log := if K.reads i = true then v.log ++ [K.seen i v.done time] else v.log }) := fun h => by unfold K.emu; rw [if_pos h]
  have e2 : K.isPriv w = false → K.emu v w time = v := fun h => by unfold K.emu; rw [if_neg (by rw [h]; decide)]
  simp only [K.vmach] at e1
  repeat' (first | refine drop_ok ?_ | intro _ | with_reducible apply And.intro)
  all_goals first | omega | (rw [e1 (by assumption)]; simp_all; done) | (rw [e2 (by assumption)]) | (clear e1 e2; simp_all; done) | (clear e1 e2; simp_all; omega)
  
theorem c_emul_Emulate : SpecOk EB_0_1 106 S_emul_Emulate := spec_sig ok_emul_Emulate (n := 60) fun ⟨v, w, time, ⟨⟩⟩ h hok => a_emul_Emulate v w time (of_decide_eq_true h) (ok_vcpu (okSL_head hok)) (ok_int (okSL_head (okSL_tail hok))) (ok_int (okSL_head (okSL_tail (okSL_tail hok))))
end

/-! vtrap_enter -/

def S_vtrap_enter : Spec := sig [.vcpu, .trap, .rd .event] [.vcpu] (fun (v, t, seen, _) => { core := K.enter v.core t, out := v.out, halted := v.halted, done := K.inc v.done, log := v.log }) (pre := fun (v, t, seen, _) => decide (seen.length = 0))
noncomputable def E_vtrap_enter : Env := EB.adds [(117, S_trap_Enter)]

theorem ok_vtrap_enter : EnvOk E_vtrap_enter := okEB.adds (l := _) ⟨c_trap_Enter, trivial⟩
theorem t_vtrap_enter (v : PVcpu) (t : PTrap) (seen : List PEvent) : evF E_vtrap_enter 60 93 (encArgs [.vcpu, .trap, .rd .event] (v, t, seen, ())) = Tree.letv (okO [AT.core]) (K.enter v.core t) fun x0 => (bif (decide ((Int.ofNat (List.length seen)) > (0 : Int))) then (bif (decide ((IntKind.wrap IntKind.i64 ((0 : Int) + (Int.ofNat (List.length v.log)))) < (0 : Int))) then (Tree.fail) else (bif (decide ((IntKind.wrap IntKind.i64 ((IntKind.wrap IntKind.i64 ((0 : Int) + (Int.ofNat (List.length v.log)))) + (Int.ofNat (List.length seen)))) < (0 : Int))) then (Tree.fail) else (bif (decide ((IntKind.wrap IntKind.i64 ((IntKind.wrap IntKind.i64 ((0 : Int) + (Int.ofNat (List.length v.log)))) + (Int.ofNat (List.length seen)))) < (0 : Int))) then (Tree.fail) else (bif (decide ((IntKind.wrap IntKind.i64 ((IntKind.wrap IntKind.i64 ((IntKind.wrap IntKind.i64 ((0 : Int) + (Int.ofNat (List.length v.log)))) + (Int.ofNat (List.length seen)))) - (0 : Int))) > (0 : Int))) then (bif (Bool.and (decide ((0 : Int) ≤ (IntKind.wrap IntKind.i64 ((IntKind.wrap IntKind.i64 ((IntKind.wrap IntKind.i64 ((0 : Int) + (Int.ofNat (List.length v.log)))) + (Int.ofNat (List.length seen)))) - (0 : Int))))) (decide (((IntKind.wrap IntKind.i64 ((IntKind.wrap IntKind.i64 ((IntKind.wrap IntKind.i64 ((0 : Int) + (Int.ofNat (List.length v.log)))) + (Int.ofNat (List.length seen)))) - (0 : Int))) * (24 : Int)) ≤ (140737488355328 : Int)))) then (Tree.fail) else (Tree.fail)) else (bif (Nat.ble ((List.length v.log) * 24)
 140737488355328) then (bif (Nat.ble (((List.length v.log) + (List.length seen)) * 24) 140737488355328) then (Tree.leaf (SV.agg [(SV.arr IntKind.u32 16 x0.regs), (SV.v (Value.int IntKind.u32 x0.pc)), (SV.arr IntKind.u32 12 x0.csr), (SV.rd ETy.u8 v.out), (SV.v (Value.bool v.halted)), (SV.v (Value.int IntKind.i64 (IntKind.wrap IntKind.i64 (v.done + (1 : Int))))), (SV.rd ETy.event (List.append v.log seen))])) else (Tree.fail)) else (Tree.fail)))))) else (Tree.leaf (SV.agg [(SV.arr IntKind.u32 16 x0.regs), (SV.v (Value.int IntKind.u32 x0.pc)), (SV.arr IntKind.u32 12 x0.csr), (SV.rd ETy.u8 v.out), (SV.v (Value.bool v.halted)), (SV.v (Value.int IntKind.i64 (IntKind.wrap IntKind.i64 (v.done + (1 : Int))))), (SV.rd ETy.event v.log)]))) := by kernel_rfl
section
attribute [local irreducible] evF evFL evFLs
theorem a_vtrap_enter (v : PVcpu) (t : PTrap) (seen : List PEvent) (hpre : seen.length = 0) (ok_v : okVcpu v) (ok_t : okTrap t) (ok_seen : okEvents seen) : (evF E_vtrap_enter 60 93 (encArgs [.vcpu, .trap, .rd .event] (v, t, seen, ()))).ends fun out_ => decO [.vcpu] out_ = some ({ core := K.enter v.core t, out := v.out, halted := v.halted, done := K.inc v.done, log := v.log }) := by
  rw [t_vtrap_enter, Tree.ends_holds]
  simp only [Tree.holds_loop, Tree.holds_fork, Tree.holds_next, if_true, Tree.holds_cond, Tree.holds_letv, Tree.holds_leaf, Tree.holds_fail, decO, decA, decTup, decMach, decCore, decTrap, decInstr, decPart, decGuest, decConf, decEvent, decVcpu, decStep, bytesS, boolS, eventsS, intsS, guestsS, vcpusS, rowS, castL, Option.bind_some, Option.map_some, Option.some.injEq, Nat.beq_refl, beq_self_eq_true, Bool.and_self, cond_true, cond_false, eq_self, beq_iff_eq, beq_eq_false_iff_ne, bne_iff_ne, bne_eq_false_iff_eq, ne_eq, decide_eq_true_eq, decide_eq_false_iff_not, ble_true, ble_false, inRange_iff, inRange_false, wrap_inc ok_v.done]
  repeat' (first | refine drop_ok ?_ | intro _ | with_reducible apply And.intro)
  all_goals first | omega | (simp_all; done)
  
theorem c_vtrap_enter : SpecOk EB 93 S_vtrap_enter := spec_sig ok_vtrap_enter (n := 60) fun ⟨v, t, seen, ⟨⟩⟩ h hok => a_vtrap_enter v t seen (of_decide_eq_true h) (ok_vcpu (okSL_head hok)) (ok_trap (okSL_head (okSL_tail hok))) (ok_events (okSL_head (okSL_tail (okSL_tail hok))))
end

/-! vtrap_Reflect -/

def S_vtrap_Reflect : Spec := sig [.vcpu, .trap] [.vcpu] (fun (v, t, _) => K.reflect v t)
noncomputable def E_vtrap_Reflect : Env := EB.adds [(93, S_vtrap_enter)]

theorem ok_vtrap_Reflect : EnvOk E_vtrap_Reflect := okEB.adds (l := _) ⟨c_vtrap_enter, trivial⟩
theorem t_vtrap_Reflect (v : PVcpu) (t : PTrap) : evF E_vtrap_Reflect 60 109 (encArgs [.vcpu, .trap] (v, t, ())) = bif (BEq.beq t.cause (0 : Int)) then (Tree.leaf (SV.agg [(SV.arr IntKind.u32 16 v.core.regs), (SV.v (Value.int IntKind.u32 v.core.pc)), (SV.arr IntKind.u32 12 v.core.csr), (SV.rd ETy.u8 v.out), (SV.v (Value.bool v.halted)), (SV.v (Value.int IntKind.i64 v.done)), (SV.rd ETy.event v.log)])) else (Tree.letv (okO [AT.vcpu]) (PVcpu.mk (K.enter v.core t) v.out v.halted (K.inc v.done) v.log) fun x0 => (Tree.leaf (SV.agg [(SV.arr IntKind.u32 16 x0.core.regs), (SV.v (Value.int IntKind.u32 x0.core.pc)), (SV.arr IntKind.u32 12 x0.core.csr), (SV.rd ETy.u8 x0.out), (SV.v (Value.bool x0.halted)), (SV.v (Value.int IntKind.i64 x0.done)), (SV.rd ETy.event x0.log)]))) := by kernel_rfl
section
attribute [local irreducible] evF evFL evFLs
theorem a_vtrap_Reflect (v : PVcpu) (t : PTrap) (ok_v : okVcpu v) (ok_t : okTrap t) : (evF E_vtrap_Reflect 60 109 (encArgs [.vcpu, .trap] (v, t, ()))).ends fun out_ => decO [.vcpu] out_ = some (K.reflect v t) := by
  rw [t_vtrap_Reflect, Tree.ends_holds]
  simp only [Tree.holds_loop, Tree.holds_fork, Tree.holds_next, if_true, Tree.holds_cond, Tree.holds_letv, Tree.holds_leaf, Tree.holds_fail, decO, decA, decTup, decMach, decCore, decTrap, decInstr, decPart, decGuest, decConf, decEvent, decVcpu, decStep, bytesS, boolS, eventsS, intsS, guestsS, vcpusS, rowS, castL, Option.bind_some, Option.map_some, Option.some.injEq, Nat.beq_refl, beq_self_eq_true, Bool.and_self, cond_true, cond_false, eq_self, beq_iff_eq, beq_eq_false_iff_ne, bne_iff_ne, bne_eq_false_iff_eq, ne_eq, decide_eq_true_eq, decide_eq_false_iff_not, ble_true, ble_false, inRange_iff, inRange_false, K.reflect]
  repeat' (first | refine drop_ok ?_ | intro _ | with_reducible apply And.intro)
  all_goals first | omega | (simp_all; done)
  
theorem c_vtrap_Reflect : SpecOk EB 109 S_vtrap_Reflect := spec_sig ok_vtrap_Reflect (n := 60) fun ⟨v, t, ⟨⟩⟩ h hok => a_vtrap_Reflect v t (ok_vcpu (okSL_head hok)) (ok_trap (okSL_head (okSL_tail hok)))
end

/-! handler_Handle -/

def S_handler_Handle : Spec := sig [.vcpu, .trap, .i .u64] [.vcpu] (fun (v, t, time, _) => K.handle v t time) (pre := fun (v, t, time, _) => decide (v.out.length ≤ 1099511627776 ∧ v.log.length ≤ 1099511627776))
noncomputable def E_handler_Handle : Env := EB_0_1.adds [(102, S_handler_IsMonitorTrap), (104, S_emul_CanEmulate), (106, S_emul_Emulate), (109, S_vtrap_Reflect)]

theorem ok_handler_Handle : EnvOk E_handler_Handle := okEB_0_1.adds (l := _) ⟨(up_to_0_1 c_handler_IsMonitorTrap), c_emul_CanEmulate, c_emul_Emulate, (up_to_0_1 c_vtrap_Reflect), trivial⟩
theorem t_handler_Handle (v : PVcpu) (t : PTrap) (time : Int) : evF E_handler_Handle 60 35 (encArgs [.vcpu, .trap, .i .u64] (v, t, time, ())) = Tree.letv (okO [AT.b]) (K.ours t) fun x0 => (bif x0 then (Tree.leaf (SV.agg [(SV.arr IntKind.u32 16 v.core.regs), (SV.v (Value.int IntKind.u32 v.core.pc)), (SV.arr IntKind.u32 12 v.core.csr), (SV.rd ETy.u8 v.out), (SV.v (Value.bool v.halted)), (SV.v (Value.int IntKind.i64 v.done)), (SV.rd ETy.event v.log)])) else (Tree.letv (okO [AT.b]) (K.can v t) fun x1 => (bif x1 then (bif (decide (And ((List.length v.out) ≤ 1099511627776) ((List.length v.log) ≤ 1099511627776))) then (Tree.letv (okO [AT.vcpu]) (K.emu v t.tval time) fun x2 => (Tree.leaf (SV.agg [(SV.arr IntKind.u32 16 x2.core.regs), (SV.v (Value.int IntKind.u32 x2.core.pc)), (SV.arr IntKind.u32 12 x2.core.csr), (SV.rd ETy.u8 x2.out), (SV.v (Value.bool x2.halted)), (SV.v (Value.int IntKind.i64 x2.done)), (SV.rd ETy.event x2.log)]))) else (Tree.fail)) else (Tree.letv (okO [AT.vcpu]) (K.reflect v t) fun x2 => (Tree.leaf (SV.agg [(SV.arr IntKind.u32 16 x2.core.regs), (SV.v (Value.int IntKind.u32 x2.core.pc)), (SV.arr IntKind.u32 12 x2.core.csr), (SV.rd ETy.u8 x2.out), (SV.v (Value.bool x2.halted)), (SV.v (Value.int IntKind.i64 x2.done)), (SV.rd ETy.event x2.log)])))))) := by kernel_rfl
section
attribute [local irreducible] evF evFL evFLs
theorem a_handler_Handle (v : PVcpu) (t : PTrap) (time : Int) (hpre : v.out.length ≤ 1099511627776 ∧ v.log.length ≤ 1099511627776) (ok_v : okVcpu v) (ok_t : okTrap t) (ok_time : okI .u64 time) : (evF E_handler_Handle 60 35 (encArgs [.vcpu, .trap, .i .u64] (v, t, time, ()))).ends fun out_ => decO [.vcpu] out_ = some (K.handle v t time) := by
  rw [t_handler_Handle, Tree.ends_holds]
  simp only [Tree.holds_loop, Tree.holds_fork, Tree.holds_next, if_true, Tree.holds_cond, Tree.holds_letv, Tree.holds_leaf, Tree.holds_fail, decO, decA, decTup, decMach, decCore, decTrap, decInstr, decPart, decGuest, decConf, decEvent, decVcpu, decStep, bytesS, boolS, eventsS, intsS, guestsS, vcpusS, rowS, castL, Option.bind_some, Option.map_some, Option.some.injEq, Nat.beq_refl, beq_self_eq_true, Bool.and_self, cond_true, cond_false, eq_self, beq_iff_eq, beq_eq_false_iff_ne, bne_iff_ne, bne_eq_false_iff_eq, ne_eq, decide_eq_true_eq, decide_eq_false_iff_not, ble_true, ble_false, inRange_iff, inRange_false, K.handle]
  repeat' (first | refine drop_ok ?_ | intro _ | with_reducible apply And.intro)
  all_goals first | omega | (simp_all; done)
  
theorem c_handler_Handle : SpecOk EB_0_1 35 S_handler_Handle := spec_sig ok_handler_Handle (n := 60) fun ⟨v, t, time, ⟨⟩⟩ h hok => a_handler_Handle v t time (of_decide_eq_true h) (ok_vcpu (okSL_head hok)) (ok_trap (okSL_head (okSL_tail hok))) (ok_int (okSL_head (okSL_tail (okSL_tail hok))))
end

/-! save_ClearRegisters -/

def S_save_ClearRegisters : Spec := sig [.mach] [.mach] (fun (host, _) => K.clear host)
noncomputable def E_save_ClearRegisters : Env := EB.adds [(62, S_regs_ClearZero)]

theorem ok_save_ClearRegisters : EnvOk E_save_ClearRegisters := okEB.adds (l := _) ⟨c_regs_ClearZero, trivial⟩
theorem t_save_ClearRegisters (host : PMach) : evF E_save_ClearRegisters 60 36 (encArgs [.mach] (host, ())) = Tree.letv (okO [(AT.a IntKind.u32 16)]) [(0 : Int), (0 : Int), (0 : Int), (0 : Int), (0 : Int), (0 : Int), (0 : Int), (0 : Int), (0 : Int), (0 : Int), (0 : Int), (0 : Int), (0 : Int), (0 : Int), (0 : Int), (0 : Int)] fun x0 => (Tree.leaf (SV.agg [(SV.arr IntKind.u32 16 x0), (SV.v (Value.int IntKind.u32 (0 : Int))), (SV.arr IntKind.u32 12 host.core.csr), (SV.rd ETy.u8 host.mem), (SV.v (Value.int IntKind.u64 host.time)), (SV.rd ETy.u8 host.out), (SV.v (Value.bool host.halted))])) := by kernel_rfl
section
attribute [local irreducible] evF evFL evFLs
theorem a_save_ClearRegisters (host : PMach) (ok_host : okMach host) : (evF E_save_ClearRegisters 60 36 (encArgs [.mach] (host, ()))).ends fun out_ => decO [.mach] out_ = some (K.clear host) := by
  rw [t_save_ClearRegisters, Tree.ends_holds]
  simp only [Tree.holds_loop, Tree.holds_fork, Tree.holds_next, if_true, Tree.holds_cond, Tree.holds_letv, Tree.holds_leaf, Tree.holds_fail, decO, decA, decTup, decMach, decCore, decTrap, decInstr, decPart, decGuest, decConf, decEvent, decVcpu, decStep, bytesS, boolS, eventsS, intsS, guestsS, vcpusS, rowS, castL, Option.bind_some, Option.map_some, Option.some.injEq, Nat.beq_refl, beq_self_eq_true, Bool.and_self, cond_true, cond_false, eq_self, beq_iff_eq, beq_eq_false_iff_ne, bne_iff_ne, bne_eq_false_iff_eq, ne_eq, decide_eq_true_eq, decide_eq_false_iff_not, ble_true, ble_false, inRange_iff, inRange_false, K.clear]
  repeat' (first | refine drop_ok ?_ | intro _ | with_reducible apply And.intro)
  all_goals first | trivial | rfl | (simp_all; done) | trace_state
  
theorem c_save_ClearRegisters : SpecOk EB 36 S_save_ClearRegisters := spec_sig ok_save_ClearRegisters (n := 60) fun ⟨host, ⟨⟩⟩ h hok => a_save_ClearRegisters host (ok_mach (okSL_head hok))
end


end Go.Proofs.YtmbmahgaejcjiaaGreatDoor
