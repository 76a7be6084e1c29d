/- Contracts of functions, by evaluation (nothing is claimed here). -/
import Derived.Test.YtchljgmcempedaaGreatDoorSh38
import Derived.KernelRfl
import Derived.Test.YtchljgmcempedaaGreatDoorProg
import Derived.Test.YtchljgmcempedaaGreatDoorReplayMatchesReferenceB3
set_option linter.unusedVariables false
set_option linter.unusedSimpArgs false
set_option maxRecDepth 100000
set_option maxHeartbeats 1000000
namespace Go.Proofs.YtchljgmcempedaaGreatDoor
open Go
/-! ref10_Load -/

def S_ref10_Load : Spec := sig [.mach, .i .u32, .i .i64] [.i .u32, .trap] (fun (m, a, n, _) => K.load m a n) (pre := fun (m, a, n, _) => decide (n = 1 ∨ n = 4))
noncomputable def E_ref10_Load : Env := EB.adds [(134, S_ref10_Cell), (135, S_ref05_Load)]

theorem ok_ref10_Load : EnvOk E_ref10_Load := okEB.adds (l := _) ⟨c_ref10_Cell, c_ref05_Load, trivial⟩
theorem t_ref10_Load (m : PMach) (a : Int) (n : Int) : evF E_ref10_Load 60 102 (encArgs [.mach, .i .u32, .i .i64] (m, a, n, ())) = bif (decide (Or (n = (1 : Int)) (n = (4 : Int)))) then (Tree.letv (okO [(AT.i IntKind.u32), AT.trap]) (K.cell m a n) fun x0 => (bif (bne x0.snd.cause (0 : Int)) then (Tree.leaf (SV.tup [(SV.v (Value.int IntKind.u32 (0 : Int))), (SV.agg [(SV.v (Value.int IntKind.i64 x0.snd.cause)), (SV.v (Value.int IntKind.u32 x0.snd.tval))])])) else (bif (decide (Or (n = (1 : Int)) (n = (4 : Int)))) then (Tree.letv (okO [(AT.i IntKind.u32), AT.b]) (if ((K.inR (Int.ofNat (List.length m.mem)) x0.fst n) = true) then ((K.ld m.mem x0.fst n), true) else ((0 : Int), false)) fun x1 => (bif x1.snd then (Tree.leaf (SV.tup [(SV.v (Value.int IntKind.u32 x1.fst)), (SV.agg [(SV.v (Value.int IntKind.i64 x0.snd.cause)), (SV.v (Value.int IntKind.u32 x0.snd.tval))])])) else (Tree.leaf (SV.tup [(SV.v (Value.int IntKind.u32 x1.fst)), (SV.agg [(SV.v (Value.int IntKind.i64 x0.snd.cause)), (SV.v (Value.int IntKind.u32 x0.snd.tval))])])))) else (Tree.fail)))) else (Tree.fail) := by kernel_rfl
section
attribute [local irreducible] evF evFL evFLs evFP
theorem a_ref10_Load (m : PMach) (a : Int) (n : Int) (hpre : n = 1 ∨ n = 4) (ok_m : okMach m) (ok_a : okI .u32 a) (ok_n : okI .i64 n) : (evF E_ref10_Load 60 102 (encArgs [.mach, .i .u32, .i .i64] (m, a, n, ()))).ends fun out_ => decO [.i .u32, .trap] out_ = some (K.load m a n) := by
  rw [t_ref10_Load, Tree.ends_holds]
  obtain ⟨a0, a1⟩ := okI_u32 ok_a
  have hr := fun h => cell_range ok_m.core (a := a) (n := n) a0 (by omega) h
  simp only [Tree.holds_loop, Tree.holds_fork, Tree.holds_next, if_true, Tree.holds_cond, Tree.holds_letv, Tree.holds_leaf, Tree.holds_fail, decO, decA, decTup, decMach, decCore, decTrap, decInstr, decPart, decGuest, decConf, decEvent, decVcpu, decStep, bytesS, boolS, eventsS, intsS, guestsS, vcpusS, rowS, castL, Option.bind_some, Option.map_some, Option.some.injEq, Nat.beq_refl, beq_self_eq_true, Bool.and_self, cond_true, cond_false, eq_self, beq_iff_eq, beq_eq_false_iff_ne, bne_iff_ne, bne_eq_false_iff_eq, ne_eq, decide_eq_true_eq, decide_eq_false_iff_not, ble_true, ble_false, inRange_iff, inRange_false, Int.ofNat_eq_natCast, K.load]
  by_cases h : (K.cell m a n).2.cause = 0
  · have ht := cell_zero h
    have hi : K.inR m.mem.length (K.cell m a n).1 n = true := by have := hr h; simp only [K.inR, decide_eq_true_eq]; omega
    simp only [h, ht, hi, if_true]
    simp [hpre]
  · simp [h, hpre]
  
theorem c_ref10_Load : SpecOk EB 102 S_ref10_Load := spec_sig ok_ref10_Load (n := 60) fun ⟨m, a, n, ⟨⟩⟩ h hok => a_ref10_Load m a n (of_decide_eq_true h) (ok_mach (okSL_head hok)) (ok_int (okSL_head (okSL_tail hok))) (ok_int (okSL_head (okSL_tail (okSL_tail hok))))
end

/-! ref01_Field -/

def S_ref01_Field : Spec := sig [.i .u32, .i .i64, .i .i64] [.i .u32] (fun (w, at_, n, _) => K.field w at_ n) (pre := fun (w, at_, n, _) => decide (at_ ≤ 63 ∧ n ≤ 63))
noncomputable def E_ref01_Field : Env := EB.adds [(98, S_ref01_Pow)]

theorem ok_ref01_Field : EnvOk E_ref01_Field := okEB.adds (l := _) ⟨c_ref01_Pow, trivial⟩
theorem t_ref01_Field (w : Int) (at_ : Int) (n : Int) : evF E_ref01_Field 60 94 (encArgs [.i .u32, .i .i64, .i .i64] (w, at_, n, ())) = bif (decide (at_ ≤ (63 : Int))) then (Tree.letv (okO [(AT.i IntKind.u64)]) (K.pow at_) fun x0 => (bif (bne x0 (0 : Int)) then (bif (decide (n ≤ (63 : Int))) then (Tree.letv (okO [(AT.i IntKind.u64)]) (K.pow n) fun x1 => (bif (bne x1 (0 : Int)) then (Tree.leaf (SV.v (Value.int IntKind.u32 (IntKind.wrap IntKind.u32 (Int.tmod (IntKind.wrap IntKind.u64 (Int.tdiv (IntKind.wrap IntKind.u64 w) x0)) x1))))) else (Tree.fail))) else (Tree.fail)) else (Tree.fail))) else (Tree.fail) := by kernel_rfl
section
attribute [local irreducible] evF evFL evFLs evFP
theorem a_ref01_Field (w : Int) (at_ : Int) (n : Int) (hpre : at_ ≤ 63 ∧ n ≤ 63) (ok_w : okI .u32 w) (ok_at_ : okI .i64 at_) (ok_n : okI .i64 n) : (evF E_ref01_Field 60 94 (encArgs [.i .u32, .i .i64, .i .i64] (w, at_, n, ()))).ends fun out_ => decO [.i .u32] out_ = some (K.field w at_ n) := by
  rw [t_ref01_Field, Tree.ends_holds]
  obtain ⟨w0, w1⟩ := okI_u32 ok_w
  have p1 := K.pow_pos at_
  have p2 := K.pow_pos n
  have p3 := K.pow_le hpre.1
  have p4 := K.pow_le hpre.2
  have q1 : w / K.pow at_ ≤ w := Int.ediv_le_self _ w0
  have q0 : 0 ≤ w / K.pow at_ := Int.ediv_nonneg w0 (by omega)
  have q2 := Int.emod_nonneg (w / K.pow at_) (show K.pow n ≠ 0 by omega)
  have q3 : w / K.pow at_ % K.pow n ≤ w / K.pow at_ := emod_le q0 p2
  have e1 : IntKind.u64.wrap w = w := by rw [wrap64]; omega
  have e2 : Int.tdiv w (K.pow at_) = w / K.pow at_ := Int.tdiv_eq_ediv_of_nonneg w0
  have e3 : IntKind.u64.wrap (w / K.pow at_) = w / K.pow at_ := by rw [wrap64]; omega
  have e4 : Int.tmod (w / K.pow at_) (K.pow n) = w / K.pow at_ % K.pow n := Int.tmod_eq_emod_of_nonneg q0
  have e5 : IntKind.u32.wrap (w / K.pow at_ % K.pow n) = w / K.pow at_ % K.pow n := by rw [wrap32]; omega
  simp only [Tree.holds_loop, Tree.holds_fork, Tree.holds_next, if_true, Tree.holds_cond, Tree.holds_letv, Tree.holds_leaf, Tree.holds_fail, decO, decA, decTup, decMach, decCore, decTrap, decInstr, decPart, decGuest, decConf, decEvent, decVcpu, decStep, bytesS, boolS, eventsS, intsS, guestsS, vcpusS, rowS, castL, Option.bind_some, Option.map_some, Option.some.injEq, Nat.beq_refl, beq_self_eq_true, Bool.and_self, cond_true, cond_false, eq_self, K.field, decide_eq_true hpre.1, decide_eq_true hpre.2, e1, e2, e3, e4, e5]
  have n1 : (K.pow at_ != 0) = true := bne_iff_ne.2 (by omega)
  have n2 : (K.pow n != 0) = true := bne_iff_ne.2 (by omega)
  simp [n1, n2]
  
theorem c_ref01_Field : SpecOk EB 94 S_ref01_Field := spec_sig ok_ref01_Field (n := 60) fun ⟨w, at_, n, ⟨⟩⟩ h hok => a_ref01_Field w at_ n (of_decide_eq_true h) (ok_int (okSL_head hok)) (ok_int (okSL_head (okSL_tail hok))) (ok_int (okSL_head (okSL_tail (okSL_tail hok))))
end

/-! ref01_Sign -/

def S_ref01_Sign : Spec := sig [.i .u32, .i .i64] [.i .i32] (fun (v, n, _) => K.sext v) (pre := fun (v, n, _) => decide (n = 18))
noncomputable def E_ref01_Sign : Env := EB.adds [(94, S_ref01_Field), (98, S_ref01_Pow)]

theorem ok_ref01_Sign : EnvOk E_ref01_Sign := okEB.adds (l := _) ⟨c_ref01_Field, c_ref01_Pow, trivial⟩
theorem t_ref01_Sign (v : Int) (n : Int) : evF E_ref01_Sign 60 136 (encArgs [.i .u32, .i .i64] (v, n, ())) = bif (decide (And ((0 : Int) ≤ (63 : Int)) (n ≤ (63 : Int)))) then (Tree.letv (okO [(AT.i IntKind.u32)]) (K.field v (0 : Int) n) fun x0 => (bif (decide ((IntKind.wrap IntKind.i64 (n - (1 : Int))) ≤ (63 : Int))) then (Tree.letv (okO [(AT.i IntKind.u64)]) (K.pow (IntKind.wrap IntKind.i64 (n - (1 : Int)))) fun x1 => (bif (decide ((IntKind.wrap IntKind.i64 x0) ≥ (IntKind.wrap IntKind.i64 x1))) then (bif (decide (n ≤ (63 : Int))) then (Tree.letv (okO [(AT.i IntKind.u64)]) (K.pow n) fun x2 => (Tree.leaf (SV.v (Value.int IntKind.i32 (IntKind.wrap IntKind.i32 (IntKind.wrap IntKind.i64 ((IntKind.wrap IntKind.i64 x0) - (IntKind.wrap IntKind.i64 x2)))))))) else (Tree.fail)) else (Tree.leaf (SV.v (Value.int IntKind.i32 (IntKind.wrap IntKind.i32 (IntKind.wrap IntKind.i64 x0))))))) else (Tree.fail))) else (Tree.fail) := by kernel_rfl
section
attribute [local irreducible] evF evFL evFLs evFP
theorem a_ref01_Sign (v : Int) (n : Int) (hpre : n = 18) (ok_v : okI .u32 v) (ok_n : okI .i64 n) : (evF E_ref01_Sign 60 136 (encArgs [.i .u32, .i .i64] (v, n, ()))).ends fun out_ => decO [.i .i32] out_ = some (K.sext v) := by
  rw [t_ref01_Sign, Tree.ends_holds]
  obtain ⟨v0, v1⟩ := okI_u32 ok_v
  subst hpre
  have e1 : K.field v 0 18 = v % 262144 := by simp [K.field, K.pow]
  have e2 : IntKind.i64.wrap (v % 262144) = v % 262144 := wrapI64 (by omega) (by omega)
  have e3 : IntKind.i64.wrap (K.pow (IntKind.i64.wrap (18 - 1))) = 131072 := by decide
  have e4 : IntKind.i64.wrap (K.pow 18) = 262144 := by decide
  have e5 : decide (IntKind.i64.wrap (18 - 1) ≤ 63) = true := by decide
  have e6 : IntKind.i64.wrap (v % 262144 - 262144) = v % 262144 - 262144 := wrapI64 (by omega) (by omega)
  have e7 : IntKind.i32.wrap (v % 262144) = v % 262144 := wrapI32 (by omega) (by omega)
  have e8 : IntKind.i32.wrap (v % 262144 - 262144) = v % 262144 - 262144 := wrapI32 (by omega) (by omega)
  simp only [Tree.holds_loop, Tree.holds_fork, Tree.holds_next, if_true, Tree.holds_cond, Tree.holds_letv, Tree.holds_leaf, Tree.holds_fail, decO, decA, decTup, decMach, decCore, decTrap, decInstr, decPart, decGuest, decConf, decEvent, decVcpu, decStep, bytesS, boolS, eventsS, intsS, guestsS, vcpusS, rowS, castL, Option.bind_some, Option.map_some, Option.some.injEq, Nat.beq_refl, beq_self_eq_true, Bool.and_self, cond_true, cond_false, eq_self, beq_iff_eq, beq_eq_false_iff_ne, bne_iff_ne, bne_eq_false_iff_eq, ne_eq, decide_eq_true_eq, decide_eq_false_iff_not, ble_true, ble_false, inRange_iff, inRange_false, e1, e2, e3, e4, e5, e6, e7, e8, K.sext]
  repeat' (first | refine drop_ok ?_ | intro _ | with_reducible apply And.intro)
  all_goals first | omega | (simp_all; done) | (simp_all; omega)
  
theorem c_ref01_Sign : SpecOk EB 136 S_ref01_Sign := spec_sig ok_ref01_Sign (n := 60) fun ⟨v, n, ⟨⟩⟩ h hok => a_ref01_Sign v n (of_decide_eq_true h) (ok_int (okSL_head hok)) (ok_int (okSL_head (okSL_tail hok)))
end

/-! ref02_Decode -/

def S_ref02_Decode : Spec := sig [.i .u32] [.instr, .b] (fun (w, _) => K.decode w)
noncomputable def E_ref02_Decode : Env := EB.adds [(57, S_ref02_Form), (136, S_ref01_Sign), (29, S_ref02_Encode)]

theorem ok_ref02_Decode : EnvOk E_ref02_Decode := okEB.adds (l := _) ⟨c_ref02_Form, c_ref01_Sign, c_ref02_Encode, trivial⟩
theorem t_ref02_Decode (w : Int) : evF E_ref02_Decode 60 103 (encArgs [.i .u32] (w, ())) = Tree.letv (okO [(AT.i IntKind.i64)]) (K.form (IntKind.wrap IntKind.i64 (IntKind.wrap IntKind.u32 (Int.tdiv w (67108864 : Int))))) fun x0 => (bif (BEq.beq x0 (1 : Int)) then (Tree.letv (okO [(AT.i IntKind.u32), AT.b]) (K.encode (PInstr.mk (IntKind.wrap IntKind.i64 (IntKind.wrap IntKind.u32 (Int.tdiv w (67108864 : Int)))) (IntKind.wrap IntKind.i64 (Int.tmod (IntKind.wrap IntKind.u32 (Int.tdiv w (4194304 : Int))) (16 : Int))) (IntKind.wrap IntKind.i64 (Int.tmod (IntKind.wrap IntKind.u32 (Int.tdiv w (262144 : Int))) (16 : Int))) (IntKind.wrap IntKind.i64 (Int.tmod w (16 : Int))) (0 : Int))) fun x1 => (bif x1.snd then (bif (bne x1.fst w) then (Tree.leaf (SV.tup [(SV.agg [(SV.v (Value.int IntKind.i64 (0 : Int))), (SV.v (Value.int IntKind.i64 (0 : Int))), (SV.v (Value.int IntKind.i64 (0 : Int))), (SV.v (Value.int IntKind.i64 (0 : Int))), (SV.v (Value.int IntKind.i32 (0 : Int)))]), (SV.b false)])) else (Tree.leaf (SV.tup [(SV.agg [(SV.v (Value.int IntKind.i64 (IntKind.wrap IntKind.i64 (IntKind.wrap IntKind.u32 (Int.tdiv w (67108864 : Int)))))), (SV.v (Value.int IntKind.i64 (IntKind.wrap IntKind.i64 (Int.tmod (IntKind.wrap IntKind.u32 (Int.tdiv w (4194304 : Int))) (16 : Int))))), (SV.v (Value.int IntKind.i64 (IntKind.wrap IntKind.i64 (Int.tmod (IntKind.wrap IntKind.u32 (Int.tdiv w (262144 : Int))) (16 : Int))))), (SV.v (Value.int IntKind.i64 (IntKind.wrap IntKind.i64 (Int.tmod w (16 : Int))))),
 (SV.v (Value.int IntKind.i32 (0 : Int)))]), (SV.b true)]))) else (Tree.leaf (SV.tup [(SV.agg [(SV.v (Value.int IntKind.i64 (0 : Int))), (SV.v (Value.int IntKind.i64 (0 : Int))), (SV.v (Value.int IntKind.i64 (0 : Int))), (SV.v (Value.int IntKind.i64 (0 : Int))), (SV.v (Value.int IntKind.i32 (0 : Int)))]), (SV.b false)])))) else (Tree.letv (okO [(AT.i IntKind.i32)]) (K.sext w) fun x1 => (Tree.letv (okO [(AT.i IntKind.u32), AT.b]) (K.encode (PInstr.mk (IntKind.wrap IntKind.i64 (IntKind.wrap IntKind.u32 (Int.tdiv w (67108864 : Int)))) (IntKind.wrap IntKind.i64 (Int.tmod (IntKind.wrap IntKind.u32 (Int.tdiv w (4194304 : Int))) (16 : Int))) (IntKind.wrap IntKind.i64 (Int.tmod (IntKind.wrap IntKind.u32 (Int.tdiv w (262144 : Int))) (16 : Int))) (0 : Int) x1)) fun x2 => (bif x2.snd then (bif (bne x2.fst w) then (Tree.leaf (SV.tup [(SV.agg [(SV.v (Value.int IntKind.i64 (0 : Int))), (SV.v (Value.int IntKind.i64 (0 : Int))), (SV.v (Value.int IntKind.i64 (0 : Int))), (SV.v (Value.int IntKind.i64 (0 : Int))), (SV.v (Value.int IntKind.i32 (0 : Int)))]), (SV.b false)])) else (Tree.leaf (SV.tup [(SV.agg [(SV.v (Value.int IntKind.i64 (IntKind.wrap IntKind.i64 (IntKind.wrap IntKind.u32 (Int.tdiv w (67108864 : Int)))))), (SV.v (Value.int IntKind.i64 (IntKind.wrap IntKind.i64 (Int.tmod (IntKind.wrap IntKind.u32 (Int.tdiv w (4194304 : Int))) (16 : Int))))), (SV.v (Value.int IntKind.i64 (IntKind.wrap IntKind.i64 (Int.tmod (IntKind.wrap IntKind.u32 (Int.tdiv w (262144 : Int))) (16 : Int))))), (SV.v
 (Value.int IntKind.i64 (0 : Int))), (SV.v (Value.int IntKind.i32 x1))]), (SV.b true)]))) else (Tree.leaf (SV.tup [(SV.agg [(SV.v (Value.int IntKind.i64 (0 : Int))), (SV.v (Value.int IntKind.i64 (0 : Int))), (SV.v (Value.int IntKind.i64 (0 : Int))), (SV.v (Value.int IntKind.i64 (0 : Int))), (SV.v (Value.int IntKind.i32 (0 : Int)))]), (SV.b false)])))))) := by kernel_rfl
section
attribute [local irreducible] evF evFL evFLs evFP
theorem a_ref02_Decode (w : Int) (ok_w : okI .u32 w) : (evF E_ref02_Decode 60 103 (encArgs [.i .u32] (w, ()))).ends fun out_ => decO [.instr, .b] out_ = some (K.decode w) := by
  rw [t_ref02_Decode, Tree.ends_holds]
  obtain ⟨w0, w1⟩ := okI_u32 ok_w
  have t1 : IntKind.u32.wrap (Int.tdiv w 67108864) = w / 67108864 := by rw [Int.tdiv_eq_ediv_of_nonneg w0, wrap32]; omega
  have t2 : Int.tmod (IntKind.u32.wrap (Int.tdiv w 4194304)) 16 = w / 4194304 % 16 := by rw [Int.tdiv_eq_ediv_of_nonneg w0, wrap32, Int.tmod_eq_emod_of_nonneg (by omega)]; omega
  have t3 : Int.tmod (IntKind.u32.wrap (Int.tdiv w 262144)) 16 = w / 262144 % 16 := by rw [Int.tdiv_eq_ediv_of_nonneg w0, wrap32, Int.tmod_eq_emod_of_nonneg (by omega)]; omega
  have t4 : Int.tmod w 16 = w % 16 := Int.tmod_eq_emod_of_nonneg w0
  have i1 : IntKind.i64.wrap (w / 67108864) = w / 67108864 := wrapI64 (by omega) (by omega)
  have i2 : IntKind.i64.wrap (w / 4194304 % 16) = w / 4194304 % 16 := wrapI64 (by omega) (by omega)
  have i3 : IntKind.i64.wrap (w / 262144 % 16) = w / 262144 % 16 := wrapI64 (by omega) (by omega)
  have i4 : IntKind.i64.wrap (w % 16) = w % 16 := wrapI64 (by omega) (by omega)
  have g1 : K.form (w / 67108864) = 1 → (⟨w / 67108864, w / 4194304 % 16, w / 262144 % 16, w % 16, 0⟩ : PInstr) = K.splitW w := fun h => by simp [K.splitW, h]
  have g2 : K.form (w / 67108864) ≠ 1 → (⟨w / 67108864, w / 4194304 % 16, w / 262144 % 16, 0, K.sext w⟩ : PInstr) = K.splitW w := fun h => by simp [K.splitW, h]
  have d1 : (K.encode (K.splitW w)).2 = true → (K.encode (K.splitW w)).1 = w → K.decode w = (K.splitW w, true) := fun h1 h2 => by
    unfold K.encode at h1 h2
    by_cases hm : K.may (K.splitW w) = true
    · rw [if_pos hm] at h2; unfold K.decode; rw [if_pos ⟨hm, h2⟩]
    · rw [if_neg hm] at h1; simp at h1
  have d2 : ¬ ((K.encode (K.splitW w)).2 = true ∧ (K.encode (K.splitW w)).1 = w) → K.decode w = (⟨0, 0, 0, 0, 0⟩, false) := fun h => by
    unfold K.encode at h
    unfold K.decode
    rw [if_neg]
    rintro ⟨h1, h2⟩
    rw [if_pos h1] at h; exact h ⟨rfl, h2⟩
  simp only [Tree.holds_loop, Tree.holds_fork, Tree.holds_next, if_true, Tree.holds_cond, Tree.holds_letv, Tree.holds_leaf, Tree.holds_fail, decO, decA, decTup, decMach, decCore, decTrap, decInstr, decPart, decGuest, decConf, decEvent, decVcpu, decStep, bytesS, boolS, eventsS, intsS, guestsS, vcpusS, rowS, castL, Option.bind_some, Option.map_some, Option.some.injEq, Nat.beq_refl, beq_self_eq_true, Bool.and_self, cond_true, cond_false, eq_self, beq_iff_eq, beq_eq_false_iff_ne, bne_iff_ne, bne_eq_false_iff_eq, ne_eq, decide_eq_true_eq, decide_eq_false_iff_not, ble_true, ble_false, inRange_iff, inRange_false, t1, t2, t3, t4, i1, i2, i3, i4]
  have fin : ∀ i, i = K.splitW w → (okO [AT.i IntKind.u32, AT.b] (K.encode i) → ((K.encode i).2 = true → (¬ (K.encode i).1 = w → ((⟨0, 0, 0, 0, 0⟩ : PInstr), false) = K.decode w) ∧ ((K.encode i).1 = w → (i, true) = K.decode w)) ∧ ((K.encode i).2 = false → ((⟨0, 0, 0, 0, 0⟩ : PInstr), false) = K.decode w)) := fun i hi _ => by
    subst hi
    exact ⟨fun a => ⟨fun b => (d2 fun c => b c.2).symm, fun b => (d1 a b).symm⟩, fun a => (d2 fun c => by rw [a] at c; exact absurd c.1 (by simp)).symm⟩
  clear d1 d2 t1 t2 t3 t4 i1 i2 i3 i4
  intro _
  by_cases hf : K.form (w / 67108864) = 1
  · simp only [hf]; simp; first | simpa using fin _ (g1 hf) | exact fun _ => by simpa using fin _ (g1 hf)
  · simp only [hf]; simp; first | simpa using fin _ (g2 hf) | exact fun _ => by simpa using fin _ (g2 hf)
  
theorem c_ref02_Decode : SpecOk EB 103 S_ref02_Decode := spec_sig ok_ref02_Decode (n := 60) fun ⟨w, ⟨⟩⟩ h hok => a_ref02_Decode w (ok_int (okSL_head hok))
end

/-! ref02_Privileged -/

def S_ref02_Privileged : Spec := sig [.i .i64] [.b] (fun (op, _) => K.privd op)
noncomputable def E_ref02_Privileged : Env := EB.adds []

theorem ok_ref02_Privileged : EnvOk E_ref02_Privileged := okEB.adds (l := _) trivial
theorem t_ref02_Privileged (op : Int) : evF E_ref02_Privileged 60 91 (encArgs [.i .i64] (op, ())) = bif (BEq.beq op (21 : Int)) then (Tree.leaf (SV.b true)) else (bif (BEq.beq op (22 : Int)) then (Tree.leaf (SV.b true)) else (bif (BEq.beq op (23 : Int)) then (Tree.leaf (SV.b true)) else (bif (BEq.beq op (24 : Int)) then (Tree.leaf (SV.b true)) else (bif (BEq.beq op (25 : Int)) then (Tree.leaf (SV.b true)) else (Tree.leaf (SV.b false)))))) := by kernel_rfl
section
attribute [local irreducible] evF evFL evFLs evFP
theorem a_ref02_Privileged (op : Int) (ok_op : okI .i64 op) : (evF E_ref02_Privileged 60 91 (encArgs [.i .i64] (op, ()))).ends fun out_ => decO [.b] out_ = some (K.privd op) := by
  rw [t_ref02_Privileged, Tree.ends_holds]
  simp only [Tree.holds_loop, Tree.holds_fork, Tree.holds_next, if_true, Tree.holds_cond, Tree.holds_letv, Tree.holds_leaf, Tree.holds_fail, decO, decA, decTup, decMach, decCore, decTrap, decInstr, decPart, decGuest, decConf, decEvent, decVcpu, decStep, bytesS, boolS, eventsS, intsS, guestsS, vcpusS, rowS, castL, Option.bind_some, Option.map_some, Option.some.injEq, Nat.beq_refl, beq_self_eq_true, Bool.and_self, cond_true, cond_false, eq_self, beq_iff_eq, beq_eq_false_iff_ne, bne_iff_ne, bne_eq_false_iff_eq, ne_eq, decide_eq_true_eq, decide_eq_false_iff_not, ble_true, ble_false, inRange_iff, inRange_false, K.privd]
  repeat' (first | refine drop_ok ?_ | intro _ | with_reducible apply And.intro)
  all_goals first | (subst_vars; rfl) | (have : ¬ (21 ≤ op ∧ op ≤ 25) := by omega
                                         by_cases h : 21 ≤ op <;> simp <;> omega)
  
theorem c_ref02_Privileged : SpecOk EB 91 S_ref02_Privileged := spec_sig ok_ref02_Privileged (n := 60) fun ⟨op, ⟨⟩⟩ h hok => a_ref02_Privileged op (ok_int (okSL_head hok))
end

/-! ref13_Now -/

def S_ref13_Now : Spec := sig [.mach] [.instr, .trap] (fun (m, _) => K.cur m)
noncomputable def E_ref13_Now : Env := EB.adds [(102, S_ref10_Load), (103, S_ref02_Decode), (91, S_ref02_Privileged), (104, S_ref06_Super)]

theorem ok_ref13_Now : EnvOk E_ref13_Now := okEB.adds (l := _) ⟨c_ref10_Load, c_ref02_Decode, c_ref02_Privileged, c_ref06_Super, trivial⟩
theorem t_ref13_Now (m : PMach) : evF E_ref13_Now 60 66 (encArgs [.mach] (m, ())) = Tree.letv (okO [(AT.i IntKind.u32), AT.trap]) (K.load m m.core.pc (4 : Int)) fun x0 => (bif (bne x0.snd.cause (0 : Int)) then (Tree.leaf (SV.tup [(SV.agg [(SV.v (Value.int IntKind.i64 (0 : Int))), (SV.v (Value.int IntKind.i64 (0 : Int))), (SV.v (Value.int IntKind.i64 (0 : Int))), (SV.v (Value.int IntKind.i64 (0 : Int))), (SV.v (Value.int IntKind.i32 (0 : Int)))]), (SV.agg [(SV.v (Value.int IntKind.i64 x0.snd.cause)), (SV.v (Value.int IntKind.u32 x0.snd.tval))])])) else (Tree.letv (okO [AT.instr, AT.b]) (K.decode x0.fst) fun x1 => (bif x1.snd then (Tree.letv (okO [AT.b]) (K.privd x1.fst.op) fun x2 => (bif x2 then (Tree.letv (okO [AT.b]) (K.super m.core) fun x3 => (bif x3 then (Tree.leaf (SV.tup [(SV.agg [(SV.v (Value.int IntKind.i64 x1.fst.op)), (SV.v (Value.int IntKind.i64 x1.fst.rd)), (SV.v (Value.int IntKind.i64 x1.fst.ra)), (SV.v (Value.int IntKind.i64 x1.fst.rb)), (SV.v (Value.int IntKind.i32 x1.fst.imm))]), (SV.agg [(SV.v (Value.int IntKind.i64 x0.snd.cause)), (SV.v (Value.int IntKind.u32 x0.snd.tval))])])) else (Tree.leaf (SV.tup [(SV.agg [(SV.v (Value.int IntKind.i64 (0 : Int))), (SV.v (Value.int IntKind.i64 (0 : Int))), (SV.v (Value.int IntKind.i64 (0 : Int))), (SV.v (Value.int IntKind.i64 (0 : Int))), (SV.v (Value.int IntKind.i32 (0 : Int)))]), (SV.agg [(SV.v (Value.int IntKind.i64 (2 : Int))), (SV.v (Value.int IntKind.u32 x0.fst))])])))) else (Tree.leaf (SV.tup [(SV.agg [(SV.v
 (Value.int IntKind.i64 x1.fst.op)), (SV.v (Value.int IntKind.i64 x1.fst.rd)), (SV.v (Value.int IntKind.i64 x1.fst.ra)), (SV.v (Value.int IntKind.i64 x1.fst.rb)), (SV.v (Value.int IntKind.i32 x1.fst.imm))]), (SV.agg [(SV.v (Value.int IntKind.i64 x0.snd.cause)), (SV.v (Value.int IntKind.u32 x0.snd.tval))])])))) else (Tree.leaf (SV.tup [(SV.agg [(SV.v (Value.int IntKind.i64 x1.fst.op)), (SV.v (Value.int IntKind.i64 x1.fst.rd)), (SV.v (Value.int IntKind.i64 x1.fst.ra)), (SV.v (Value.int IntKind.i64 x1.fst.rb)), (SV.v (Value.int IntKind.i32 x1.fst.imm))]), (SV.agg [(SV.v (Value.int IntKind.i64 (1 : Int))), (SV.v (Value.int IntKind.u32 x0.fst))])]))))) := by kernel_rfl
section
attribute [local irreducible] evF evFL evFLs evFP
theorem a_ref13_Now (m : PMach) (ok_m : okMach m) : (evF E_ref13_Now 60 66 (encArgs [.mach] (m, ()))).ends fun out_ => decO [.instr, .trap] out_ = some (K.cur m) := by
  rw [t_ref13_Now, Tree.ends_holds]
  have lz := fun a n => load_zero (m := m) (a := a) (n := n)
  have dz := fun w => decode_none (w := w)
  simp only [Tree.holds_loop, Tree.holds_fork, Tree.holds_next, if_true, Tree.holds_cond, Tree.holds_letv, Tree.holds_leaf, Tree.holds_fail, decO, decA, decTup, decMach, decCore, decTrap, decInstr, decPart, decGuest, decConf, decEvent, decVcpu, decStep, bytesS, boolS, eventsS, intsS, guestsS, vcpusS, rowS, castL, Option.bind_some, Option.map_some, Option.some.injEq, Nat.beq_refl, beq_self_eq_true, Bool.and_self, cond_true, cond_false, eq_self, beq_iff_eq, beq_eq_false_iff_ne, bne_iff_ne, bne_eq_false_iff_eq, ne_eq, decide_eq_true_eq, decide_eq_false_iff_not, ble_true, ble_false, inRange_iff, inRange_false]
  unfold K.cur
  repeat' (first | refine drop_ok ?_ | intro _ | with_reducible apply And.intro)
  all_goals first | omega | (simp_all; done) | (rw [dz _ (by assumption)]; simp_all; done) | trace_state
  
theorem c_ref13_Now : SpecOk EB 66 S_ref13_Now := spec_sig ok_ref13_Now (n := 60) fun ⟨m, ⟨⟩⟩ h hok => a_ref13_Now m (ok_mach (okSL_head hok))
end

/-! ref07_Get -/

def S_ref07_Get : Spec := sig [.a .u32 16, .i .i64] [.i .u32] (fun (r, i, _) => K.get r i)
noncomputable def E_ref07_Get : Env := EB.adds []

theorem ok_ref07_Get : EnvOk E_ref07_Get := okEB.adds (l := _) trivial
theorem t_ref07_Get (r : List Int) (i : Int) : evF E_ref07_Get 60 124 (encArgs [.a .u32 16, .i .i64] (r, i, ())) = bif (BEq.beq (1 : Int) i) then (Tree.leaf (SV.v (Value.int IntKind.u32 (List.getD r 1 (0 : Int))))) else (bif (BEq.beq (2 : Int) i) then (Tree.leaf (SV.v (Value.int IntKind.u32 (List.getD r 2 (0 : Int))))) else (bif (BEq.beq (3 : Int) i) then (Tree.leaf (SV.v (Value.int IntKind.u32 (List.getD r 3 (0 : Int))))) else (bif (BEq.beq (4 : Int) i) then (Tree.leaf (SV.v (Value.int IntKind.u32 (List.getD r 4 (0 : Int))))) else (bif (BEq.beq (5 : Int) i) then (Tree.leaf (SV.v (Value.int IntKind.u32 (List.getD r 5 (0 : Int))))) else (bif (BEq.beq (6 : Int) i) then (Tree.leaf (SV.v (Value.int IntKind.u32 (List.getD r 6 (0 : Int))))) else (bif (BEq.beq (7 : Int) i) then (Tree.leaf (SV.v (Value.int IntKind.u32 (List.getD r 7 (0 : Int))))) else (bif (BEq.beq (8 : Int) i) then (Tree.leaf (SV.v (Value.int IntKind.u32 (List.getD r 8 (0 : Int))))) else (bif (BEq.beq (9 : Int) i) then (Tree.leaf (SV.v (Value.int IntKind.u32 (List.getD r 9 (0 : Int))))) else (bif (BEq.beq (10 : Int) i) then (Tree.leaf (SV.v (Value.int IntKind.u32 (List.getD r 10 (0 : Int))))) else (bif (BEq.beq (11 : Int) i) then (Tree.leaf (SV.v (Value.int IntKind.u32 (List.getD r 11 (0 : Int))))) else (bif (BEq.beq (12 : Int) i) then (Tree.leaf (SV.v (Value.int IntKind.u32 (List.getD r 12 (0 : Int))))) else (bif (BEq.beq (13 : Int) i) then (Tree.leaf (SV.v (Value.int IntKind.u32 (List.getD r 13 (0 : Int))))) else
 (bif (BEq.beq (14 : Int) i) then (Tree.leaf (SV.v (Value.int IntKind.u32 (List.getD r 14 (0 : Int))))) else (bif (BEq.beq (15 : Int) i) then (Tree.leaf (SV.v (Value.int IntKind.u32 (List.getD r 15 (0 : Int))))) else (Tree.leaf (SV.v (Value.int IntKind.u32 (0 : Int)))))))))))))))))) := by kernel_rfl
section
attribute [local irreducible] evF evFL evFLs evFP
theorem a_ref07_Get (r : List Int) (i : Int) (ok_r : okL .u32 16 r) (ok_i : okI .i64 i) : (evF E_ref07_Get 60 124 (encArgs [.a .u32 16, .i .i64] (r, i, ()))).ends fun out_ => decO [.i .u32] out_ = some (K.get r i) := by
  rw [t_ref07_Get, Tree.ends_holds]
  simp only [Tree.holds_loop, Tree.holds_fork, Tree.holds_next, if_true, Tree.holds_cond, Tree.holds_letv, Tree.holds_leaf, Tree.holds_fail, decO, decA, decTup, decMach, decCore, decTrap, decInstr, decPart, decGuest, decConf, decEvent, decVcpu, decStep, bytesS, boolS, eventsS, intsS, guestsS, vcpusS, rowS, castL, Option.bind_some, Option.map_some, Option.some.injEq, Nat.beq_refl, beq_self_eq_true, Bool.and_self, cond_true, cond_false, eq_self, K.get]
  by_cases h : 0 < i ∧ i < 16
  · rw [if_pos h]
    have : i = 1 ∨ i = 2 ∨ i = 3 ∨ i = 4 ∨ i = 5 ∨ i = 6 ∨ i = 7 ∨ i = 8 ∨ i = 9 ∨ i = 10 ∨ i = 11 ∨ i = 12 ∨ i = 13 ∨ i = 14 ∨ i = 15 := by omega
    rcases this with rfl | rfl | rfl | rfl | rfl | rfl | rfl | rfl | rfl | rfl | rfl | rfl | rfl | rfl | rfl <;> simp
  · rw [if_neg h]
    have n : ∀ k : Int, 0 < k → k < 16 → (k == i) = false := fun k h0 h1 => by
      have : ¬ k = i := by omega
      simpa using this
    simp [n]
  
theorem c_ref07_Get : SpecOk EB 124 S_ref07_Get := spec_sig ok_ref07_Get (n := 60) fun ⟨r, i, ⟨⟩⟩ h hok => a_ref07_Get r i (ok_arr (okSL_head hok)) (ok_int (okSL_head (okSL_tail hok)))
end

/-! ref07_Put -/
def K.putN (r : List Int) (i v : Int) (j : Nat) : List Int := (K.put r i v).take j ++ List.replicate (16 - j) 0
theorem K.putN_step {r : List Int} {i v : Int} (hr : r.length = 16) {j : Nat} (hj : j < 16) {z : Int} (hz : z = (K.put r i v).getD j 0) : (K.putN r i v j).set j z = K.putN r i v (j + 1) := by
  have hl : (K.put r i v).length = 16 := by unfold K.put; split <;> simp [hr]
  unfold K.putN
  rw [List.set_append_right _ _ (by simp; omega), List.take_succ_eq_append_getElem (by omega), List.append_assoc]
  congr 1
  rw [show j - (List.take j (K.put r i v)).length = 0 by simp; omega, show 16 - j = (16 - (j + 1)) + 1 by omega, List.replicate_succ]
  simp [hz, hl, hj]
@[reducible] def L_ref07_Put (r : List Int) (i v : Int) : LoopSpec where
  σ := Nat
  slots := [1, 2, 3, 6, 7, 8]
  keys := [3, 6, 7]
  vals := fun j => [.v (.int .i64 i), .v (.int .u32 v), .loc 0 0 0 1, .loc 1 0 0 1, .loc 2 0 0 1, .v (.int .i64 (j : Int))]
  blks := fun j => [.cells [.arr .u32 16 r] 23, .cells [.arr .u32 16 [0, 0, 0, 0, 0, 0, 0, 0, 0, 0, 0, 0, 0, 0, 0, 0]] 23, .cells [.arr .u32 16 (K.putN r i v j)] 23]
  inv := fun j => j ≤ 16
  mu := fun j => 16 - j
def S_ref07_Put : Spec := sig [.a .u32 16, .i .i64, .i .u32] [.a .u32 16] (fun (r, i, v, _) => K.put r i v)
noncomputable def E_ref07_Put : Env := EB.adds []

theorem ok_ref07_Put : EnvOk E_ref07_Put := okEB.adds (l := _) trivial
theorem t_ref07_Put (r : List Int) (i : Int) (v : Int) : evFL E_ref07_Put (fun _ => some (L_ref07_Put r i v)) 60 126 (encArgs [.a .u32 16, .i .i64, .i .u32] (r, i, v, ())) = Tree.loop 0 (L_ref07_Put r i v) [(SV.v (Value.int IntKind.i64 i)), (SV.v (Value.int IntKind.u32 v)), (SV.loc 0 0 0 1), (SV.loc 1 0 0 1), (SV.loc 2 0 0 1), (SV.v (Value.int IntKind.i64 (0 : Int)))] [(Blk.cells [(SV.arr IntKind.u32 16 r)] 23), (Blk.cells [(SV.arr IntKind.u32 16 [(0 : Int), (0 : Int), (0 : Int), (0 : Int), (0 : Int), (0 : Int), (0 : Int), (0 : Int), (0 : Int), (0 : Int), (0 : Int), (0 : Int), (0 : Int), (0 : Int), (0 : Int), (0 : Int)])] 23), (Blk.cells [(SV.arr IntKind.u32 16 [(0 : Int), (0 : Int), (0 : Int), (0 : Int), (0 : Int), (0 : Int), (0 : Int), (0 : Int), (0 : Int), (0 : Int), (0 : Int), (0 : Int), (0 : Int), (0 : Int), (0 : Int), (0 : Int)])] 23)] fun (x0 : Nat) => (bif (decide ((Int.ofNat x0) < (16 : Int))) then (bif (inRange (Int.ofNat x0) 16) then (bif (inRange (Int.ofNat x0) 16) then (bif (BEq.beq (Int.ofNat x0) i) then (bif (bne (Int.ofNat x0) (0 : Int)) then (bif (inRange (Int.ofNat x0) 16) then ((Tree.next 0 [(SV.v (Value.int IntKind.i64 i)), (SV.v (Value.int IntKind.u32 v)), (SV.loc 0 0 0 1), (SV.loc 1 0 0 1), (SV.loc 2 0 0 1), (SV.v (Value.int IntKind.i64 (IntKind.wrap IntKind.i64 ((Int.ofNat x0) + (1 : Int)))))] [(Blk.cells [(SV.arr IntKind.u32 16 r)] 23), (Blk.cells [(SV.arr IntKind.u32 16 [(0 : Int), (0 : Int), (0 : Int), (0 : Int), (0 : Int), (0 : Int), (0 : Int), (0 :
 Int), (0 : Int), (0 : Int), (0 : Int), (0 : Int), (0 : Int), (0 : Int), (0 : Int), (0 : Int)])] 23), (Blk.cells [(SV.arr IntKind.u32 16 (List.set (List.set (K.putN r i v x0) ((Int.toNat (Int.ofNat x0))) (List.getD r ((Int.toNat (Int.ofNat x0))) (0 : Int))) ((Int.toNat (Int.ofNat x0))) v))] 23)])) else (Tree.fail)) else ((Tree.next 0 [(SV.v (Value.int IntKind.i64 i)), (SV.v (Value.int IntKind.u32 v)), (SV.loc 0 0 0 1), (SV.loc 1 0 0 1), (SV.loc 2 0 0 1), (SV.v (Value.int IntKind.i64 (IntKind.wrap IntKind.i64 ((Int.ofNat x0) + (1 : Int)))))] [(Blk.cells [(SV.arr IntKind.u32 16 r)] 23), (Blk.cells [(SV.arr IntKind.u32 16 [(0 : Int), (0 : Int), (0 : Int), (0 : Int), (0 : Int), (0 : Int), (0 : Int), (0 : Int), (0 : Int), (0 : Int), (0 : Int), (0 : Int), (0 : Int), (0 : Int), (0 : Int), (0 : Int)])] 23), (Blk.cells [(SV.arr IntKind.u32 16 (List.set (K.putN r i v x0) ((Int.toNat (Int.ofNat x0))) (List.getD r ((Int.toNat (Int.ofNat x0))) (0 : Int))))] 23)]))) else ((Tree.next 0 [(SV.v (Value.int IntKind.i64 i)), (SV.v (Value.int IntKind.u32 v)), (SV.loc 0 0 0 1), (SV.loc 1 0 0 1), (SV.loc 2 0 0 1), (SV.v (Value.int IntKind.i64 (IntKind.wrap IntKind.i64 ((Int.ofNat x0) + (1 : Int)))))] [(Blk.cells [(SV.arr IntKind.u32 16 r)] 23), (Blk.cells [(SV.arr IntKind.u32 16 [(0 : Int), (0 : Int), (0 : Int), (0 : Int), (0 : Int), (0 : Int), (0 : Int), (0 : Int), (0 : Int), (0 : Int), (0 : Int), (0 : Int), (0 : Int), (0 : Int), (0 : Int), (0 : Int)])] 23), (Blk.cells [(SV.arr IntKind.u32 16
 (List.set (K.putN r i v x0) ((Int.toNat (Int.ofNat x0))) (List.getD r ((Int.toNat (Int.ofNat x0))) (0 : Int))))] 23)]))) else (Tree.fail)) else (Tree.fail)) else (Tree.leaf (SV.agg [(SV.arr IntKind.u32 16 (K.putN r i v x0))]))) := by kernel_rfl
section
attribute [local irreducible] evF evFL evFLs evFP
theorem a_ref07_Put (r : List Int) (i : Int) (v : Int) (ok_r : okL .u32 16 r) (ok_i : okI .i64 i) (ok_v : okI .u32 v) : (evFL E_ref07_Put (fun _ => some (L_ref07_Put r i v)) 60 126 (encArgs [.a .u32 16, .i .i64, .i .u32] (r, i, v, ()))).ends fun out_ => decO [.a .u32 16] out_ = some (K.put r i v) := by
  rw [t_ref07_Put, Tree.ends_holds]
  have hr := ok_r.1
  simp only [Tree.holds_loop]
  refine ⟨⟨(0 : Nat), rfl, rfl, Nat.zero_le _, trivial⟩, fun (j : Nat) (hj : j ≤ 16) => ?_⟩
  simp only [Tree.holds_loop, Tree.holds_fork, Tree.holds_next, if_true, Tree.holds_cond, Tree.holds_letv, Tree.holds_leaf, Tree.holds_fail, decO, decA, decTup, decMach, decCore, decTrap, decInstr, decPart, decGuest, decConf, decEvent, decVcpu, decStep, bytesS, boolS, eventsS, intsS, guestsS, vcpusS, rowS, castL, Option.bind_some, Option.map_some, Option.some.injEq, Nat.beq_refl, beq_self_eq_true, Bool.and_self, cond_true, cond_false, eq_self]
  refine ⟨fun h => ?_, fun h => ?_⟩
  · have hlt : j < 16 := by simp at h; omega
    have r1 : inRange (j : Int) 16 = true := inRange_iff.2 ⟨by omega, by omega⟩
    have e2 : IntKind.i64.wrap ((j : Int) + 1) = ((j + 1 : Nat) : Int) := by rw [wrapI64 (by omega) (by omega)]; rfl
    simp only [Int.ofNat_eq_natCast, Int.toNat_natCast, r1, true_implies, Bool.true_eq_false, false_implies, and_true, e2]
    have s1 : (j : Int) = i → j ≠ 0 → ((K.putN r i v j).set j (r.getD j 0)).set j v = K.putN r i v (j + 1) := fun q1 q2 => by
      rw [List.set_set, K.putN_step hr hlt]
      unfold K.put; rw [if_pos (by omega)]; subst q1; simp [hr, hlt]
    have s2 : ((j : Int) ≠ i ∨ j = 0) → (K.putN r i v j).set j (r.getD j 0) = K.putN r i v (j + 1) := fun q => by
      rw [K.putN_step hr hlt]
      unfold K.put; split
      · rw [List.getD_eq_getElem?_getD, List.getD_eq_getElem?_getD, List.getElem?_set_ne (by omega)]
      · rfl
    have fin : ∀ x, x = K.putN r i v (j + 1) → (L_ref07_Put r i v).at (fun y => (L_ref07_Put r i v).mu y < (L_ref07_Put r i v).mu j) [.v (.int .i64 i), .v (.int .u32 v), .loc 0 0 0 1, .loc 1 0 0 1, .loc 2 0 0 1, .v (.int .i64 ((j + 1 : Nat) : Int))] [.cells [.arr .u32 16 r] 23, .cells [.arr .u32 16 [0, 0, 0, 0, 0, 0, 0, 0, 0, 0, 0, 0, 0, 0, 0, 0]] 23, .cells [.arr .u32 16 x] 23] := fun x hx =>
      ⟨j + 1, rfl, by rw [hx], by show j + 1 ≤ 16; omega, by show 16 - (j + 1) < 16 - j; omega⟩
    refine ⟨fun q1 => ⟨fun q2 => ?_, fun q2 => ?_⟩, fun q1 => ?_⟩
    · exact fin _ (s1 (by simpa using q1) (by simpa using q2))
    · exact fin _ (s2 (.inr (by simpa using q2)))
    · exact fin _ (s2 (.inl (by simpa using q1)))
  · have : j = 16 := by simp at h; omega
    subst this
    have hl : (K.put r i v).length = 16 := by unfold K.put; split <;> simp [hr]
    show _ = K.put r i v
    unfold K.putN
    rw [List.take_of_length_le (by omega)]; simp
  
theorem c_ref07_Put : SpecOk EB 126 S_ref07_Put := spec_sigL ok_ref07_Put (n := 60) (fun (r, i, v, _) => fun _ => some (L_ref07_Put r i v)) fun ⟨r, i, v, ⟨⟩⟩ h hok => a_ref07_Put r i v (ok_arr (okSL_head hok)) (ok_int (okSL_head (okSL_tail hok))) (ok_int (okSL_head (okSL_tail (okSL_tail hok))))
end

/-! ref01_Put -/
def K.putTo (w at_ n v : Int) (j : Nat) : Int := ((K.bput w at_ n v).toNat % 2 ^ j : Nat)
@[reducible] def L_ref01_Put (w at_ n v : Int) : LoopSpec where
  σ := Nat
  slots := [0, 1, 2, 3, 9, 10]
  keys := []
  vals := fun j => [.v (.int .u32 w), .v (.int .i64 at_), .v (.int .i64 n), .v (.int .u32 v), .v (.int .u64 (K.putTo w at_ n v j)), .v (.int .i64 (j : Int))]
  blks := fun _ => []
  inv := fun j => j ≤ 32
  mu := fun j => 32 - j
def S_ref01_Put : Spec := sig [.i .u32, .i .i64, .i .i64, .i .u32] [.i .u32] (fun (w, at_, n, v, _) => K.bput w at_ n v) (pre := fun (w, at_, n, v, _) => decide (0 ≤ at_ ∧ 0 ≤ n ∧ at_ + n ≤ 32))
noncomputable def E_ref01_Put : Env := EB.adds [(98, S_ref01_Pow), (94, S_ref01_Field)]

theorem ok_ref01_Put : EnvOk E_ref01_Put := okEB.adds (l := _) ⟨c_ref01_Pow, c_ref01_Field, trivial⟩
theorem t_ref01_Put (w : Int) (at_ : Int) (n : Int) (v : Int) : evFL E_ref01_Put (fun _ => some (L_ref01_Put w at_ n v)) 60 95 (encArgs [.i .u32, .i .i64, .i .i64, .i .u32] (w, at_, n, v, ())) = Tree.loop 0 (L_ref01_Put w at_ n v) [(SV.v (Value.int IntKind.u32 w)), (SV.v (Value.int IntKind.i64 at_)), (SV.v (Value.int IntKind.i64 n)), (SV.v (Value.int IntKind.u32 v)), (SV.v (Value.int IntKind.u64 (0 : Int))), (SV.v (Value.int IntKind.i64 (0 : Int)))] [] fun (x0 : Nat) => (bif (decide ((Int.ofNat x0) < (32 : Int))) then (bif (decide (And ((Int.ofNat x0) ≤ (63 : Int)) ((1 : Int) ≤ (63 : Int)))) then (Tree.letv (okO [(AT.i IntKind.u32)]) (K.field w (Int.ofNat x0) (1 : Int)) fun x1 => (bif (decide ((Int.ofNat x0) ≥ at_)) then (bif (decide ((Int.ofNat x0) < (IntKind.wrap IntKind.i64 (at_ + n)))) then (bif (decide (And ((IntKind.wrap IntKind.i64 ((Int.ofNat x0) - at_)) ≤ (63 : Int)) ((1 : Int) ≤ (63 : Int)))) then (Tree.letv (okO [(AT.i IntKind.u32)]) (K.field v (IntKind.wrap IntKind.i64 ((Int.ofNat x0) - at_)) (1 : Int)) fun x2 => (bif (decide ((Int.ofNat x0) ≤ (63 : Int))) then (Tree.letv (okO [(AT.i IntKind.u64)]) (K.pow (Int.ofNat x0)) fun x3 => ((Tree.next 0 [(SV.v (Value.int IntKind.u32 w)), (SV.v (Value.int IntKind.i64 at_)), (SV.v (Value.int IntKind.i64 n)), (SV.v (Value.int IntKind.u32 v)), (SV.v (Value.int IntKind.u64 (IntKind.wrap IntKind.u64 ((K.putTo w at_ n v x0) + (IntKind.wrap IntKind.u64 ((IntKind.wrap IntKind.u64 x2) * x3)))))), (SV.v (Value.int IntKind.i64
 (IntKind.wrap IntKind.i64 ((Int.ofNat x0) + (1 : Int)))))] []))) else (Tree.fail))) else (Tree.fail)) else (bif (decide ((Int.ofNat x0) ≤ (63 : Int))) then (Tree.letv (okO [(AT.i IntKind.u64)]) (K.pow (Int.ofNat x0)) fun x2 => ((Tree.next 0 [(SV.v (Value.int IntKind.u32 w)), (SV.v (Value.int IntKind.i64 at_)), (SV.v (Value.int IntKind.i64 n)), (SV.v (Value.int IntKind.u32 v)), (SV.v (Value.int IntKind.u64 (IntKind.wrap IntKind.u64 ((K.putTo w at_ n v x0) + (IntKind.wrap IntKind.u64 ((IntKind.wrap IntKind.u64 x1) * x2)))))), (SV.v (Value.int IntKind.i64 (IntKind.wrap IntKind.i64 ((Int.ofNat x0) + (1 : Int)))))] []))) else (Tree.fail))) else (bif (decide ((Int.ofNat x0) ≤ (63 : Int))) then (Tree.letv (okO [(AT.i IntKind.u64)]) (K.pow (Int.ofNat x0)) fun x2 => ((Tree.next 0 [(SV.v (Value.int IntKind.u32 w)), (SV.v (Value.int IntKind.i64 at_)), (SV.v (Value.int IntKind.i64 n)), (SV.v (Value.int IntKind.u32 v)), (SV.v (Value.int IntKind.u64 (IntKind.wrap IntKind.u64 ((K.putTo w at_ n v x0) + (IntKind.wrap IntKind.u64 ((IntKind.wrap IntKind.u64 x1) * x2)))))), (SV.v (Value.int IntKind.i64 (IntKind.wrap IntKind.i64 ((Int.ofNat x0) + (1 : Int)))))] []))) else (Tree.fail)))) else (Tree.fail)) else (Tree.leaf (SV.v (Value.int IntKind.u32 (IntKind.wrap IntKind.u32 (K.putTo w at_ n v x0)))))) := by kernel_rfl
section
attribute [local irreducible] evF evFL evFLs evFP
theorem a_ref01_Put (w : Int) (at_ : Int) (n : Int) (v : Int) (hpre : 0 ≤ at_ ∧ 0 ≤ n ∧ at_ + n ≤ 32) (ok_w : okI .u32 w) (ok_at_ : okI .i64 at_) (ok_n : okI .i64 n) (ok_v : okI .u32 v) : (evFL E_ref01_Put (fun _ => some (L_ref01_Put w at_ n v)) 60 95 (encArgs [.i .u32, .i .i64, .i .i64, .i .u32] (w, at_, n, v, ()))).ends fun out_ => decO [.i .u32] out_ = some (K.bput w at_ n v) := by
  rw [t_ref01_Put, Tree.ends_holds]
  obtain ⟨w0, w1⟩ := okI_u32 ok_w
  obtain ⟨v0, v1⟩ := okI_u32 ok_v
  obtain ⟨w, rfl⟩ := Int.eq_ofNat_of_zero_le w0
  obtain ⟨v, rfl⟩ := Int.eq_ofNat_of_zero_le v0
  obtain ⟨a, rfl⟩ := Int.eq_ofNat_of_zero_le hpre.1
  obtain ⟨n, rfl⟩ := Int.eq_ofNat_of_zero_le hpre.2.1
  have hT := bput_lt (w := w) (a := a) (n := n) (v := v) (by omega) (by omega)
  have hbit := fun j => bput_bit (w := w) (a := a) (n := n) (v := v) (j := j)
  have hK : (K.bput (w : Int) (a : Int) (n : Int) (v : Int)).toNat = 2 ^ a * (2 ^ n * (w / 2 ^ (a + n)) + v % 2 ^ n) + w % 2 ^ a := by unfold K.bput; rw [Int.toNat_natCast]; simp only [Int.toNat_natCast]
  simp only [Tree.holds_loop]
  refine ⟨⟨(0 : Nat), by simp [K.putTo, Nat.mod_one], rfl, Nat.zero_le _, trivial⟩, fun (j : Nat) (hj : j ≤ 32) => ?_⟩
  generalize 2 ^ a * (2 ^ n * (w / 2 ^ (a + n)) + v % 2 ^ n) + w % 2 ^ a = T at hT hbit hK
  simp only [Tree.holds_loop, Tree.holds_fork, Tree.holds_next, if_true, Tree.holds_cond, Tree.holds_letv, Tree.holds_leaf, Tree.holds_fail]
  have c63 : decide (Int.ofNat j ≤ 63 ∧ (1 : Int) ≤ 63) = true := by simp; omega
  have f1 : ∀ x i : Nat, x < 4294967296 → i < 32 → IntKind.u64.wrap (K.field (x : Int) (i : Int) 1) * K.pow (j : Int) = (((x.testBit i).toNat * 2 ^ j : Nat) : Int) := fun x i hx hi => by
    have : K.field (x : Int) (i : Int) 1 = ((x.testBit i).toNat : Int) := by
      unfold K.field K.pow
      rw [← div_bit_aux]
      simp
    rw [this, wrap64]
    have := Bool.toNat_le (x.testBit i)
    unfold K.pow
    rw [Int.natCast_mul, Int.emod_eq_of_lt (by omega) (by omega)]; simp
  refine ⟨fun h => ?_, fun h => ?_⟩
  · have hlt : j < 32 := by simp at h; omega
    have h2 := pow_le32 (i := j) (by omega)
    have e2 : IntKind.i64.wrap ((j : Int) + 1) = ((j + 1 : Nat) : Int) := by rw [wrapI64 (by omega) (by omega)]; rfl
    have e3 : IntKind.i64.wrap ((a : Int) + (n : Int)) = ((a + n : Nat) : Int) := by rw [wrapI64 (by omega) (by omega)]; rfl
    have key : ∀ x i : Nat, x < 4294967296 → i < 32 → x.testBit i = T.testBit j → IntKind.u64.wrap (K.putTo w a n v j + IntKind.u64.wrap (IntKind.u64.wrap (K.field (x : Int) (i : Int) 1) * K.pow (j : Int))) = K.putTo w a n v (j + 1) := fun x i hx hi hb => by
      rw [f1 x i hx hi, hb]
      unfold K.putTo
      rw [hK, wrap64, wrap64, bit_more_aux]
      have h3 : T % 2 ^ j < 2 ^ j := Nat.mod_lt _ (Nat.two_pow_pos j)
      have h4 := Bool.toNat_le (T.testBit j)
      have h5 : (T.testBit j).toNat * 2 ^ j ≤ 2 ^ j := by
        rcases Nat.le_one_iff_eq_zero_or_eq_one.1 h4 with e | e <;> rw [e] <;> omega
      rw [Nat.mul_comm (2 ^ j)]
      generalize (T.testBit j).toNat * 2 ^ j = z at *
      generalize T % 2 ^ j = y at *
      omega
    have nx : ∀ z : Int, z = K.putTo w a n v (j + 1) → (L_ref01_Put w a n v).at (fun y => (L_ref01_Put w a n v).mu y < (L_ref01_Put w a n v).mu j) [SV.v (.int .u32 (w : Int)), .v (.int .i64 (a : Int)), .v (.int .i64 (n : Int)), .v (.int .u32 (v : Int)), .v (.int .u64 z), .v (.int .i64 (IntKind.i64.wrap ((j : Int) + 1)))] [] := fun z hz => by
      refine ⟨j + 1, ?_, rfl, ?_, ?_⟩
      · rw [hz, e2]
      · show j + 1 ≤ 32; omega
      · show 32 - (j + 1) < 32 - j; omega
    have hw := key w j (by omega) hlt
    have hb := hbit j
    simp only [Int.ofNat_eq_natCast] at *
    have no : ∀ {q : Prop} [Decidable q], q → ¬ decide q = false := fun h e => by simp [h] at e
    simp only [e3]
    refine ⟨fun _ _ => ⟨fun g1 => ⟨fun g2 => ?_, fun g2 => ?_⟩, fun g1 => ?_⟩, fun q => no (by omega) q⟩
    · have g1 : a ≤ j := by simpa using g1
      have g2 : j < a + n := by simp at g2; omega
      have e4 : IntKind.i64.wrap ((j : Int) - (a : Int)) = ((j - a : Nat) : Int) := by rw [wrapI64 (by omega) (by omega)]; omega
      rw [if_pos ⟨g1, g2⟩] at hb
      simp only [Int.ofNat_eq_natCast, e4]
      exact ⟨fun _ _ => ⟨fun _ _ => nx _ (key v (j - a) (by omega) (by omega) hb.symm), fun q => no (by omega) q⟩, fun q => no (by omega) q⟩
    · have g2 : ¬ j < a + n := by simp at g2; omega
      rw [if_neg (by omega)] at hb
      exact ⟨fun _ _ => nx _ (hw hb.symm), fun q => no (by omega) q⟩
    · have g1 : ¬ a ≤ j := by simpa using g1
      rw [if_neg (by omega)] at hb
      exact ⟨fun _ _ => nx _ (hw hb.symm), fun q => no (by omega) q⟩
  · have : j = 32 := by simp at h; omega
    subst this
    have e : K.putTo (w : Int) (a : Int) (n : Int) (v : Int) 32 = K.bput (w : Int) (a : Int) (n : Int) (v : Int) := by
      unfold K.putTo
      rw [hK, Nat.mod_eq_of_lt (show T < 2 ^ 32 by omega), ← hK, Int.toNat_of_nonneg (by unfold K.bput; omega)]
    have e2 : K.bput (w : Int) (a : Int) (n : Int) (v : Int) < 4294967296 := by
      have : 0 ≤ K.bput (w : Int) (a : Int) (n : Int) (v : Int) := by unfold K.bput; omega
      omega
    have e3 : 0 ≤ K.bput (w : Int) (a : Int) (n : Int) (v : Int) := by unfold K.bput; omega
    rw [e, wrap32, Int.emod_eq_of_lt e3 e2]
    rfl
  
theorem c_ref01_Put : SpecOk EB 95 S_ref01_Put := spec_sigL ok_ref01_Put (n := 60) (fun (w, at_, n, v, _) => fun _ => some (L_ref01_Put w at_ n v)) fun ⟨w, at_, n, v, ⟨⟩⟩ h hok => a_ref01_Put w at_ n v (of_decide_eq_true h) (ok_int (okSL_head hok)) (ok_int (okSL_head (okSL_tail hok))) (ok_int (okSL_head (okSL_tail (okSL_tail hok)))) (ok_int (okSL_head (okSL_tail (okSL_tail (okSL_tail hok)))))
end

/-! ref09_Return -/

def S_ref09_Return : Spec := sig [.core] [.core] (fun (c, _) => K.ret c)
noncomputable def E_ref09_Return : Env := EB.adds [(95, S_ref01_Put), (94, S_ref01_Field)]

theorem ok_ref09_Return : EnvOk E_ref09_Return := okEB.adds (l := _) ⟨c_ref01_Put, c_ref01_Field, trivial⟩
theorem t_ref09_Return (c : PCore) : evF E_ref09_Return 60 125 (encArgs [.core] (c, ())) = Tree.letv (okO [(AT.i IntKind.u32)]) (K.field (List.getD c.csr 0 (0 : Int)) (2 : Int) (1 : Int)) fun x0 => (Tree.letv (okO [(AT.i IntKind.u32)]) (K.bput (List.getD c.csr 0 (0 : Int)) (0 : Int) (1 : Int) x0) fun x1 => (Tree.letv (okO [(AT.i IntKind.u32)]) (K.field x1 (3 : Int) (1 : Int)) fun x2 => (Tree.letv (okO [(AT.i IntKind.u32)]) (K.bput x1 (1 : Int) (1 : Int) x2) fun x3 => (Tree.leaf (SV.agg [(SV.arr IntKind.u32 16 c.regs), (SV.v (Value.int IntKind.u32 (List.getD (List.set c.csr 0 x3) 1 (0 : Int)))), (SV.arr IntKind.u32 12 (List.set c.csr 0 x3))]))))) := by kernel_rfl
section
attribute [local irreducible] evF evFL evFLs evFP
theorem a_ref09_Return (c : PCore) (ok_c : okCore c) : (evF E_ref09_Return 60 125 (encArgs [.core] (c, ()))).ends fun out_ => decO [.core] out_ = some (K.ret c) := by
  rw [t_ref09_Return, Tree.ends_holds]
  obtain ⟨s0, s1⟩ := ok_c.csr.u32 (i := 0) (by omega)
  simp only [Tree.holds_loop, Tree.holds_fork, Tree.holds_next, if_true, Tree.holds_cond, Tree.holds_letv, Tree.holds_leaf, Tree.holds_fail, decO, decA, decTup, decMach, decCore, decTrap, decInstr, decPart, decGuest, decConf, decEvent, decVcpu, decStep, bytesS, boolS, eventsS, intsS, guestsS, vcpusS, rowS, castL, Option.bind_some, Option.map_some, Option.some.injEq, Nat.beq_refl, beq_self_eq_true, Bool.and_self, cond_true, cond_false, eq_self, K.ret, K.retS]
  generalize c.csr.getD 0 0 = s at *
  have p : ∀ x at_ v : Int, K.bput x at_ 1 v = ((2 ^ at_.toNat * (2 * (x.toNat / 2 ^ (at_.toNat + 1)) + v.toNat % 2) + x.toNat % 2 ^ at_.toNat : Nat) : Int) := fun _ _ _ => rfl
  have p0 : ∀ x v : Int, K.bput x 0 1 v = ((2 * (x.toNat / 2) + v.toNat % 2 : Nat) : Int) := fun x v => by rw [p]; simp [Nat.mod_one]
  have p1 : ∀ x v : Int, K.bput x 1 1 v = ((2 * (2 * (x.toNat / 4) + v.toNat % 2) + x.toNat % 2 : Nat) : Int) := fun x v => by rw [p]; simp
  have f2 : K.field s 2 1 = s / 4 % 2 := by simp [K.field, K.pow]
  have f3 : ∀ x : Int, K.field x 3 1 = x / 8 % 2 := fun x => by simp [K.field, K.pow]
  simp only [f2, f3, p0, p1]
  have hg : ∀ z, (c.csr.set 0 z).getD 1 0 = c.csr.getD 1 0 := fun z => by simp [List.getD_eq_getElem?_getD]
  rw [hg]
  refine fun _ _ _ _ => ?_
  congr 2
  omega
  
theorem c_ref09_Return : SpecOk EB 125 S_ref09_Return := spec_sig ok_ref09_Return (n := 60) fun ⟨c, ⟨⟩⟩ h hok => a_ref09_Return c (ok_core (okSL_head hok))
end

/-! ref04_Read -/

def S_ref04_Read : Spec := sig [.a .u32 12, .i .u64, .i .i64] [.i .u32] (fun (c, time, n, _) => K.csrRead c time n)
noncomputable def E_ref04_Read : Env := EB.adds []

theorem ok_ref04_Read : EnvOk E_ref04_Read := okEB.adds (l := _) trivial
theorem t_ref04_Read (c : List Int) (time : Int) (n : Int) : evF E_ref04_Read 60 127 (encArgs [.a .u32 12, .i .u64, .i .i64] (c, time, n, ())) = bif (BEq.beq n (7 : Int)) then (Tree.leaf (SV.v (Value.int IntKind.u32 (IntKind.wrap IntKind.u32 (Int.tmod time (4294967296 : Int)))))) else (bif (BEq.beq n (8 : Int)) then (Tree.leaf (SV.v (Value.int IntKind.u32 (IntKind.wrap IntKind.u32 (IntKind.wrap IntKind.u64 (Int.tdiv time (4294967296 : Int))))))) else (bif (decide (n < (0 : Int))) then (Tree.leaf (SV.v (Value.int IntKind.u32 (0 : Int)))) else (bif (decide (n > (11 : Int))) then (Tree.leaf (SV.v (Value.int IntKind.u32 (0 : Int)))) else (bif (inRange n 12) then (Tree.leaf (SV.v (Value.int IntKind.u32 (List.getD c ((Int.toNat n)) (0 : Int))))) else (Tree.fail))))) := by kernel_rfl
section
attribute [local irreducible] evF evFL evFLs evFP
theorem a_ref04_Read (c : List Int) (time : Int) (n : Int) (ok_c : okL .u32 12 c) (ok_time : okI .u64 time) (ok_n : okI .i64 n) : (evF E_ref04_Read 60 127 (encArgs [.a .u32 12, .i .u64, .i .i64] (c, time, n, ()))).ends fun out_ => decO [.i .u32] out_ = some (K.csrRead c time n) := by
  rw [t_ref04_Read, Tree.ends_holds]
  obtain ⟨t0, t1⟩ := okI_u64 ok_time
  have e1 : IntKind.u32.wrap (Int.tmod time 4294967296) = time % 4294967296 := by rw [Int.tmod_eq_emod_of_nonneg t0, wrap32]; omega
  have e2 : IntKind.u32.wrap (IntKind.u64.wrap (Int.tdiv time 4294967296)) = time / 4294967296 := by rw [Int.tdiv_eq_ediv_of_nonneg t0, wrap64, wrap32]; omega
  simp only [Tree.holds_loop, Tree.holds_fork, Tree.holds_next, if_true, Tree.holds_cond, Tree.holds_letv, Tree.holds_leaf, Tree.holds_fail, decO, decA, decTup, decMach, decCore, decTrap, decInstr, decPart, decGuest, decConf, decEvent, decVcpu, decStep, bytesS, boolS, eventsS, intsS, guestsS, vcpusS, rowS, castL, Option.bind_some, Option.map_some, Option.some.injEq, Nat.beq_refl, beq_self_eq_true, Bool.and_self, cond_true, cond_false, eq_self, K.csrRead, e1, e2]
  grind [inRange]
  
theorem c_ref04_Read : SpecOk EB 127 S_ref04_Read := spec_sig ok_ref04_Read (n := 60) fun ⟨c, time, n, ⟨⟩⟩ h hok => a_ref04_Read c time n (ok_arr (okSL_head hok)) (ok_int (okSL_head (okSL_tail hok))) (ok_int (okSL_head (okSL_tail (okSL_tail hok))))
end

/-! ref04_Writable -/

def S_ref04_Writable : Spec := sig [.i .i64, .i .i64] [.b] (fun (n, b, _) => K.wrB n b)
noncomputable def E_ref04_Writable : Env := EB.adds []

theorem ok_ref04_Writable : EnvOk E_ref04_Writable := okEB.adds (l := _) trivial
theorem t_ref04_Writable (n : Int) (b : Int) : evF E_ref04_Writable 60 144 (encArgs [.i .i64, .i .i64] (n, b, ())) = bif (BEq.beq n (0 : Int)) then (bif (decide (b ≥ (1 : Int))) then (bif (decide (b ≤ (3 : Int))) then (Tree.leaf (SV.b true)) else (Tree.leaf (SV.b false))) else (Tree.leaf (SV.b false))) else (bif (BEq.beq n (1 : Int)) then (bif (decide (b ≥ (2 : Int))) then (Tree.leaf (SV.b true)) else (Tree.leaf (SV.b false))) else (bif (BEq.beq n (4 : Int)) then (bif (decide (b ≥ (2 : Int))) then (Tree.leaf (SV.b true)) else (Tree.leaf (SV.b false))) else (bif (BEq.beq n (5 : Int)) then (bif (decide (b ≥ (2 : Int))) then (Tree.leaf (SV.b true)) else (Tree.leaf (SV.b false))) else (bif (BEq.beq n (2 : Int)) then (Tree.leaf (SV.b true)) else (bif (BEq.beq n (3 : Int)) then (Tree.leaf (SV.b true)) else (bif (BEq.beq n (6 : Int)) then (Tree.leaf (SV.b true)) else (bif (BEq.beq n (9 : Int)) then (Tree.leaf (SV.b true)) else (bif (BEq.beq n (10 : Int)) then (Tree.leaf (SV.b true)) else (bif (BEq.beq n (11 : Int)) then (Tree.leaf (SV.b true)) else (Tree.leaf (SV.b false))))))))))) := by kernel_rfl
section
attribute [local irreducible] evF evFL evFLs evFP
theorem a_ref04_Writable (n : Int) (b : Int) (ok_n : okI .i64 n) (ok_b : okI .i64 b) : (evF E_ref04_Writable 60 144 (encArgs [.i .i64, .i .i64] (n, b, ()))).ends fun out_ => decO [.b] out_ = some (K.wrB n b) := by
  rw [t_ref04_Writable, Tree.ends_holds]
  simp only [Tree.holds_loop, Tree.holds_fork, Tree.holds_next, if_true, Tree.holds_cond, Tree.holds_letv, Tree.holds_leaf, Tree.holds_fail, decO, decA, decTup, decMach, decCore, decTrap, decInstr, decPart, decGuest, decConf, decEvent, decVcpu, decStep, bytesS, boolS, eventsS, intsS, guestsS, vcpusS, rowS, castL, Option.bind_some, Option.map_some, Option.some.injEq, Nat.beq_refl, beq_self_eq_true, Bool.and_self, cond_true, cond_false, eq_self, K.wrB]
  grind
  
theorem c_ref04_Writable : SpecOk EB 144 S_ref04_Writable := spec_sig ok_ref04_Writable (n := 60) fun ⟨n, b, ⟨⟩⟩ h hok => a_ref04_Writable n b (ok_int (okSL_head hok)) (ok_int (okSL_head (okSL_tail hok)))
end

/-! ref04_Write -/
def K.wTo (c : List Int) (n v : Int) (j : Nat) : Int := ((K.mix (c.getD n.toNat 0) v (K.mask n)).toNat % 2 ^ j : Nat)
@[reducible] def L_ref04_Write (c : List Int) (n v : Int) : LoopSpec where
  σ := Nat
  slots := [1, 2, 3, 6, 7, 8, 9]
  keys := [3, 6]
  vals := fun j => [.v (.int .i64 n), .v (.int .u32 v), .loc 0 0 0 1, .loc 1 0 0 1, .v (.int .u32 (K.wTo c n v j)), .v (.int .u32 (((2 ^ j : Nat) : Int) % 4294967296)), .v (.int .i64 (j : Int))]
  blks := fun _ => [.cells [.arr .u32 12 c] 24, .cells [.arr .u32 12 [0, 0, 0, 0, 0, 0, 0, 0, 0, 0, 0, 0]] 24]
  inv := fun j => j ≤ 32
  mu := fun j => 32 - j
def S_ref04_Write : Spec := sig [.a .u32 12, .i .i64, .i .u32] [.a .u32 12] (fun (c, n, v, _) => K.csrWrite c n v)
noncomputable def E_ref04_Write : Env := EB.adds [(144, S_ref04_Writable)]

theorem ok_ref04_Write : EnvOk E_ref04_Write := okEB.adds (l := _) ⟨c_ref04_Writable, trivial⟩
theorem t_ref04_Write (c : List Int) (n : Int) (v : Int) : evFL E_ref04_Write (fun _ => some (L_ref04_Write c n v)) 60 128 (encArgs [.a .u32 12, .i .i64, .i .u32] (c, n, v, ())) = bif (decide (n < (0 : Int))) then (Tree.leaf (SV.agg [(SV.arr IntKind.u32 12 c)])) else (bif (decide (n > (11 : Int))) then (Tree.leaf (SV.agg [(SV.arr IntKind.u32 12 c)])) else (Tree.loop 0 (L_ref04_Write c n v) [(SV.v (Value.int IntKind.i64 n)), (SV.v (Value.int IntKind.u32 v)), (SV.loc 0 0 0 1), (SV.loc 1 0 0 1), (SV.v (Value.int IntKind.u32 (0 : Int))), (SV.v (Value.int IntKind.u32 (1 : Int))), (SV.v (Value.int IntKind.i64 (0 : Int)))] [(Blk.cells [(SV.arr IntKind.u32 12 c)] 24), (Blk.cells [(SV.arr IntKind.u32 12 [(0 : Int), (0 : Int), (0 : Int), (0 : Int), (0 : Int), (0 : Int), (0 : Int), (0 : Int), (0 : Int), (0 : Int), (0 : Int), (0 : Int)])] 24)] fun (x0 : Nat) => (bif (decide ((Int.ofNat x0) < (32 : Int))) then (bif (inRange n 12) then (bif (bne ((Int.ofNat (2 ^ x0)) % (4294967296 : Int)) (0 : Int)) then (Tree.letv (okO [AT.b]) (K.wrB n (Int.ofNat x0)) fun x1 => (bif x1 then (bif (bne ((Int.ofNat (2 ^ x0)) % (4294967296 : Int)) (0 : Int)) then ((Tree.next 0 [(SV.v (Value.int IntKind.i64 n)), (SV.v (Value.int IntKind.u32 v)), (SV.loc 0 0 0 1), (SV.loc 1 0 0 1), (SV.v (Value.int IntKind.u32 (IntKind.wrap IntKind.u32 ((K.wTo c n v x0) + (IntKind.wrap IntKind.u32 ((Int.tmod (IntKind.wrap IntKind.u32 (Int.tdiv v ((Int.ofNat (2 ^ x0)) % (4294967296 : Int)))) (2 : Int)) * ((Int.ofNat (2 ^ x0)) %
 (4294967296 : Int)))))))), (SV.v (Value.int IntKind.u32 (IntKind.wrap IntKind.u32 (((Int.ofNat (2 ^ x0)) % (4294967296 : Int)) * (2 : Int))))), (SV.v (Value.int IntKind.i64 (IntKind.wrap IntKind.i64 ((Int.ofNat x0) + (1 : Int)))))] [(Blk.cells [(SV.arr IntKind.u32 12 c)] 24), (Blk.cells [(SV.arr IntKind.u32 12 [(0 : Int), (0 : Int), (0 : Int), (0 : Int), (0 : Int), (0 : Int), (0 : Int), (0 : Int), (0 : Int), (0 : Int), (0 : Int), (0 : Int)])] 24)])) else (Tree.fail)) else ((Tree.next 0 [(SV.v (Value.int IntKind.i64 n)), (SV.v (Value.int IntKind.u32 v)), (SV.loc 0 0 0 1), (SV.loc 1 0 0 1), (SV.v (Value.int IntKind.u32 (IntKind.wrap IntKind.u32 ((K.wTo c n v x0) + (IntKind.wrap IntKind.u32 ((Int.tmod (IntKind.wrap IntKind.u32 (Int.tdiv (List.getD c ((Int.toNat n)) (0 : Int)) ((Int.ofNat (2 ^ x0)) % (4294967296 : Int)))) (2 : Int)) * ((Int.ofNat (2 ^ x0)) % (4294967296 : Int)))))))), (SV.v (Value.int IntKind.u32 (IntKind.wrap IntKind.u32 (((Int.ofNat (2 ^ x0)) % (4294967296 : Int)) * (2 : Int))))), (SV.v (Value.int IntKind.i64 (IntKind.wrap IntKind.i64 ((Int.ofNat x0) + (1 : Int)))))] [(Blk.cells [(SV.arr IntKind.u32 12 c)] 24), (Blk.cells [(SV.arr IntKind.u32 12 [(0 : Int), (0 : Int), (0 : Int), (0 : Int), (0 : Int), (0 : Int), (0 : Int), (0 : Int), (0 : Int), (0 : Int), (0 : Int), (0 : Int)])] 24)])))) else (Tree.fail)) else (Tree.fail)) else (bif (inRange n 12) then (Tree.leaf (SV.agg [(SV.arr IntKind.u32 12 (List.set c ((Int.toNat n)) (K.wTo c n v x0)))])) else
 (Tree.fail))))) := by kernel_rfl
section
attribute [local irreducible] evF evFL evFLs evFP
theorem a_ref04_Write (c : List Int) (n : Int) (v : Int) (ok_c : okL .u32 12 c) (ok_n : okI .i64 n) (ok_v : okI .u32 v) : (evFL E_ref04_Write (fun _ => some (L_ref04_Write c n v)) 60 128 (encArgs [.a .u32 12, .i .i64, .i .u32] (c, n, v, ()))).ends fun out_ => decO [.a .u32 12] out_ = some (K.csrWrite c n v) := by
  rw [t_ref04_Write, Tree.ends_holds]
  obtain ⟨v0, v1⟩ := okI_u32 ok_v
  simp only [Tree.holds_cond, Tree.holds_leaf, Tree.holds_loop]
  refine ⟨fun h => ?_, fun h0 => ⟨fun h => ?_, fun h1 => ?_⟩⟩
  · have h : n < 0 := by simpa using h
    simp only [decO, decA, decTup, decMach, decCore, decTrap, decInstr, decPart, decGuest, decConf, decEvent, decVcpu, decStep, bytesS, boolS, eventsS, intsS, guestsS, vcpusS, rowS, castL, Option.bind_some, Option.map_some, Option.some.injEq, Nat.beq_refl, beq_self_eq_true, Bool.and_self, cond_true, cond_false, eq_self, K.csrWrite]; rw [if_neg (by omega)]
  · have h : n > 11 := by simpa using h
    simp only [decO, decA, decTup, decMach, decCore, decTrap, decInstr, decPart, decGuest, decConf, decEvent, decVcpu, decStep, bytesS, boolS, eventsS, intsS, guestsS, vcpusS, rowS, castL, Option.bind_some, Option.map_some, Option.some.injEq, Nat.beq_refl, beq_self_eq_true, Bool.and_self, cond_true, cond_false, eq_self, K.csrWrite]; rw [if_neg (by omega)]
  have n0 : 0 ≤ n := by simp at h0; omega
  have n1 : n < 12 := by simp at h1; omega
  have hr : inRange n 12 = true := inRange_iff.2 ⟨n0, n1⟩
  obtain ⟨x0, x1⟩ := ok_c.u32 (i := n.toNat) (by omega)
  obtain ⟨m0, m1⟩ := K.mask_ok n
  have ok2 := K.mix_ok x0 x1 v0 v1 m0 m1
  have hm : K.mask n = K.mk.getD n.toNat 0 := by unfold K.mask; rw [if_pos ⟨n0, n1⟩]
  have hbit : ∀ i : Nat, (K.mix (c.getD n.toNat 0) v (K.mask n)).toNat.testBit i = (if (K.mask n).toNat.testBit i then v.toNat.testBit i else (c.getD n.toNat 0).toNat.testBit i) := fun i => by
    have := mix_nat (x := (c.getD n.toNat 0).toNat) (v := v.toNat) (m := (K.mask n).toNat) (by omega) (by omega) (by omega)
    rw [Int.toNat_of_nonneg x0, Int.toNat_of_nonneg v0, Int.toNat_of_nonneg m0] at this
    rw [this, Int.toNat_natCast, mix_bit (by omega) (by omega)]
  have hfin : K.csrWrite c n v = c.set n.toNat (K.mix (c.getD n.toNat 0) v (K.mask n)) := by unfold K.csrWrite; rw [if_pos ⟨n0, n1⟩, hm]
  refine ⟨⟨(0 : Nat), by simp [K.wTo, Nat.mod_one], rfl, Nat.zero_le _, trivial⟩, fun (j : Nat) (hj : j ≤ 32) => ?_⟩
  simp only [Tree.holds_loop, Tree.holds_fork, Tree.holds_next, if_true, Tree.holds_cond, Tree.holds_letv, Tree.holds_leaf, Tree.holds_fail]
  have hwr := fun (h : j < 32) => wrB_bit (n := n) h
  have hw : ∀ i, K.wTo c n v i = (((K.mix (c.getD n.toNat 0) v (K.mask n)).toNat % 2 ^ i : Nat) : Int) := fun _ => rfl
  rw [hfin]
  generalize hX : (c.getD n.toNat 0) = X at *
  generalize hMM : K.mask n = m at *
  generalize hTT : K.mix X v m = T at *
  refine ⟨fun h => ?_, fun h => ?_⟩
  · have hlt : j < 32 := by simp at h; omega
    have h2 := pow_le32 (i := j) (by omega)
    have h3 : 2 ^ j ≤ 2147483648 := by
      have : 2 ^ j ≤ 2 ^ 31 := Nat.pow_le_pow_right (by omega) (by omega)
      omega
    have hp := Nat.two_pow_pos j
    have e2 : IntKind.i64.wrap ((j : Int) + 1) = ((j + 1 : Nat) : Int) := by rw [wrapI64 (by omega) (by omega)]; rfl
    have e3 : (((2 ^ j : Nat) : Int) % 4294967296) = ((2 ^ j : Nat) : Int) := by omega
    have e4 : IntKind.u32.wrap (((2 ^ j : Nat) : Int) * 2) = (((2 ^ (j + 1) : Nat) : Int) % 4294967296) := by rw [wrap32, Nat.pow_succ]; omega
    have hne : ((((2 ^ j : Nat) : Int)) != 0) = true := bne_iff_ne.2 (by omega)
    have key : ∀ x : Int, 0 ≤ x → x < 4294967296 → x.toNat.testBit j = T.toNat.testBit j →
        IntKind.u32.wrap (K.wTo c n v j + IntKind.u32.wrap ((Int.tmod (IntKind.u32.wrap (Int.tdiv x ((2 ^ j : Nat) : Int))) 2) * ((2 ^ j : Nat) : Int))) = K.wTo c n v (j + 1) := fun x a0 a1 hb => by
      obtain ⟨x, rfl⟩ := Int.eq_ofNat_of_zero_le a0
      rw [Int.toNat_natCast] at hb
      rw [hw, hw, bit_more_aux, ← hb, Nat.toNat_testBit]
      have b1 : Int.tdiv (x : Int) ((2 ^ j : Nat) : Int) = ((x / 2 ^ j : Nat) : Int) := by rw [Int.tdiv_eq_ediv_of_nonneg (by omega)]; rfl
      have b2 : x / 2 ^ j ≤ x := Nat.div_le_self _ _
      have hz0 : x / 2 ^ j % 2 < 2 := Nat.mod_lt _ (by omega)
      have b3 : T.toNat % 2 ^ j < 2 ^ j := Nat.mod_lt _ hp
      have b4 : IntKind.u32.wrap ((x / 2 ^ j : Nat) : Int) = ((x / 2 ^ j : Nat) : Int) := by
        generalize x / 2 ^ j = y at *
        rw [wrap32]; omega
      have b5 : Int.tmod ((x / 2 ^ j : Nat) : Int) 2 = ((x / 2 ^ j % 2 : Nat) : Int) := by rw [Int.tmod_eq_emod_of_nonneg (Int.natCast_nonneg _)]; rfl
      rw [b1, b4, b5, wrap32, wrap32]
      generalize x / 2 ^ j % 2 = z at *
      have hz : z = 0 ∨ z = 1 := by omega
      generalize T.toNat % 2 ^ j = y at *
      generalize 2 ^ j = q at *
      rcases hz with rfl | rfl
      · simp only [Int.natCast_zero, Int.zero_mul, Nat.mul_zero]; omega
      · simp only [Int.natCast_one, Int.one_mul, Nat.mul_one]; omega
    have nx : ∀ z : Int, z = K.wTo c n v (j + 1) → (L_ref04_Write c n v).at (fun y => (L_ref04_Write c n v).mu y < (L_ref04_Write c n v).mu j) [SV.v (.int .i64 n), .v (.int .u32 v), .loc 0 0 0 1, .loc 1 0 0 1, .v (.int .u32 z), .v (.int .u32 (IntKind.u32.wrap (((2 ^ j : Nat) : Int) * 2))), .v (.int .i64 (IntKind.i64.wrap ((j : Int) + 1)))] [.cells [.arr .u32 12 c] 24, .cells [.arr .u32 12 [0, 0, 0, 0, 0, 0, 0, 0, 0, 0, 0, 0]] 24] := fun z hz => by
      refine ⟨j + 1, ?_, rfl, ?_, ?_⟩
      · rw [hz, e2, e4]
      · show j + 1 ≤ 32; omega
      · show 32 - (j + 1) < 32 - j; omega
    have hb := hbit j
    have hwr := hwr hlt
    simp only [Int.ofNat_eq_natCast] at *
    rw [hwr]
    simp only [e3, hne, hr, true_implies, Bool.true_eq_false, false_implies, and_true]
    intro _
    refine ⟨fun q => ?_, fun q => ?_⟩
    · rw [q] at hb
      exact nx _ (key v v0 v1 (by simpa using hb.symm))
    · rw [q] at hb
      refine nx _ (key X x0 x1 (by simpa using hb.symm))
  · have : j = 32 := by simp at h; omega
    subst this
    have e : K.wTo c n v 32 = T := by
      rw [hw, Nat.mod_eq_of_lt (show T.toNat < 2 ^ 32 by omega), Int.toNat_of_nonneg ok2.1]
    rw [e, hr]
    simp [decO, decA, decTup, decMach, decCore, decTrap, decInstr, decPart, decGuest, decConf, decEvent, decVcpu, decStep, bytesS, boolS, eventsS, intsS, guestsS, vcpusS, rowS, castL, Option.bind_some, Option.map_some, Option.some.injEq, Nat.beq_refl, beq_self_eq_true, Bool.and_self, cond_true, cond_false, eq_self]
  
  
theorem c_ref04_Write : SpecOk EB 128 S_ref04_Write := spec_sigL ok_ref04_Write (n := 60) (fun (c, n, v, _) => fun _ => some (L_ref04_Write c n v)) fun ⟨c, n, v, ⟨⟩⟩ h hok => a_ref04_Write c n v (ok_arr (okSL_head hok)) (ok_int (okSL_head (okSL_tail hok))) (ok_int (okSL_head (okSL_tail (okSL_tail hok))))
end

/-! ref12_Do -/

def S_ref12_Do : Spec := sig [.mach, .instr] [.mach] (fun (m, i, _) => K.priv m i) (pre := fun (m, i, _) => decide (m.out.length ≤ 1099511627776))
noncomputable def E_ref12_Do : Env := EB.adds [(124, S_ref07_Get), (126, S_ref07_Put), (125, S_ref09_Return), (127, S_ref04_Read), (128, S_ref04_Write)]

theorem ok_ref12_Do : EnvOk E_ref12_Do := okEB.adds (l := _) ⟨c_ref07_Get, c_ref07_Put, c_ref09_Return, c_ref04_Read, c_ref04_Write, trivial⟩
theorem t_ref12_Do (m : PMach) (i : PInstr) : evF E_ref12_Do 60 92 (encArgs [.mach, .instr] (m, i, ())) = Tree.letv (okO [(AT.i IntKind.u32)]) (K.get m.core.regs i.ra) fun x0 => (bif (BEq.beq i.op (23 : Int)) then (Tree.letv (okO [AT.core]) (K.ret m.core) fun x1 => (Tree.leaf (SV.agg [(SV.arr IntKind.u32 16 x1.regs), (SV.v (Value.int IntKind.u32 x1.pc)), (SV.arr IntKind.u32 12 x1.csr), (SV.rd ETy.u8 m.mem), (SV.v (Value.int IntKind.u64 m.time)), (SV.rd ETy.u8 m.out), (SV.v (Value.bool m.halted))]))) else (bif (BEq.beq i.op (21 : Int)) then (Tree.letv (okO [(AT.i IntKind.u32)]) (K.csrRead m.core.csr m.time (IntKind.wrap IntKind.i64 i.imm)) fun x1 => (Tree.letv (okO [(AT.a IntKind.u32 16)]) (K.put m.core.regs i.rd x1) fun x2 => (bif (BEq.beq i.op (22 : Int)) then (Tree.letv (okO [(AT.a IntKind.u32 12)]) (K.csrWrite m.core.csr (IntKind.wrap IntKind.i64 i.imm) x0) fun x3 => (bif (BEq.beq i.op (24 : Int)) then (bif (BEq.beq i.op (25 : Int)) then (bif (Bool.or (Bool.not (Nat.beq (List.length m.out) 0)) true) then (bif (Nat.ble ((0 + (List.length m.out)) * 1) 140737488355328) then (bif (Nat.ble (((List.length m.out) + 1) * 1) 140737488355328) then (Tree.leaf (SV.agg [(SV.arr IntKind.u32 16 x2), (SV.v (Value.int IntKind.u32 (IntKind.wrap IntKind.u32 (m.core.pc + (4 : Int))))), (SV.arr IntKind.u32 12 x3), (SV.rd ETy.u8 m.mem), (SV.v (Value.int IntKind.u64 m.time)), (SV.rd ETy.u8 (List.append m.out [(IntKind.wrap IntKind.u8 (Int.tmod x0 (256 : Int)))])), (SV.b true)])) else (Tree.fail))
 else (Tree.fail)) else (Tree.fail)) else (Tree.leaf (SV.agg [(SV.arr IntKind.u32 16 x2), (SV.v (Value.int IntKind.u32 (IntKind.wrap IntKind.u32 (m.core.pc + (4 : Int))))), (SV.arr IntKind.u32 12 x3), (SV.rd ETy.u8 m.mem), (SV.v (Value.int IntKind.u64 m.time)), (SV.rd ETy.u8 m.out), (SV.b true)]))) else (bif (BEq.beq i.op (25 : Int)) then (bif (Bool.or (Bool.not (Nat.beq (List.length m.out) 0)) true) then (bif (Nat.ble ((0 + (List.length m.out)) * 1) 140737488355328) then (bif (Nat.ble (((List.length m.out) + 1) * 1) 140737488355328) then (Tree.leaf (SV.agg [(SV.arr IntKind.u32 16 x2), (SV.v (Value.int IntKind.u32 (IntKind.wrap IntKind.u32 (m.core.pc + (4 : Int))))), (SV.arr IntKind.u32 12 x3), (SV.rd ETy.u8 m.mem), (SV.v (Value.int IntKind.u64 m.time)), (SV.rd ETy.u8 (List.append m.out [(IntKind.wrap IntKind.u8 (Int.tmod x0 (256 : Int)))])), (SV.v (Value.bool m.halted))])) else (Tree.fail)) else (Tree.fail)) else (Tree.fail)) else (Tree.leaf (SV.agg [(SV.arr IntKind.u32 16 x2), (SV.v (Value.int IntKind.u32 (IntKind.wrap IntKind.u32 (m.core.pc + (4 : Int))))), (SV.arr IntKind.u32 12 x3), (SV.rd ETy.u8 m.mem), (SV.v (Value.int IntKind.u64 m.time)), (SV.rd ETy.u8 m.out), (SV.v (Value.bool m.halted))]))))) else (bif (BEq.beq i.op (24 : Int)) then (bif (BEq.beq i.op (25 : Int)) then (bif (Bool.or (Bool.not (Nat.beq (List.length m.out) 0)) true) then (bif (Nat.ble ((0 + (List.length m.out)) * 1) 140737488355328) then (bif (Nat.ble (((List.length m.out) + 1) * 1) 140737488355328)
 then (Tree.leaf (SV.agg [(SV.arr IntKind.u32 16 x2), (SV.v (Value.int IntKind.u32 (IntKind.wrap IntKind.u32 (m.core.pc + (4 : Int))))), (SV.arr IntKind.u32 12 m.core.csr), (SV.rd ETy.u8 m.mem), (SV.v (Value.int IntKind.u64 m.time)), (SV.rd ETy.u8 (List.append m.out [(IntKind.wrap IntKind.u8 (Int.tmod x0 (256 : Int)))])), (SV.b true)])) else (Tree.fail)) else (Tree.fail)) else (Tree.fail)) else (Tree.leaf (SV.agg [(SV.arr IntKind.u32 16 x2), (SV.v (Value.int IntKind.u32 (IntKind.wrap IntKind.u32 (m.core.pc + (4 : Int))))), (SV.arr IntKind.u32 12 m.core.csr), (SV.rd ETy.u8 m.mem), (SV.v (Value.int IntKind.u64 m.time)), (SV.rd ETy.u8 m.out), (SV.b true)]))) else (bif (BEq.beq i.op (25 : Int)) then (bif (Bool.or (Bool.not (Nat.beq (List.length m.out) 0)) true) then (bif (Nat.ble ((0 + (List.length m.out)) * 1) 140737488355328) then (bif (Nat.ble (((List.length m.out) + 1) * 1) 140737488355328) then (Tree.leaf (SV.agg [(SV.arr IntKind.u32 16 x2), (SV.v (Value.int IntKind.u32 (IntKind.wrap IntKind.u32 (m.core.pc + (4 : Int))))), (SV.arr IntKind.u32 12 m.core.csr), (SV.rd ETy.u8 m.mem), (SV.v (Value.int IntKind.u64 m.time)), (SV.rd ETy.u8 (List.append m.out [(IntKind.wrap IntKind.u8 (Int.tmod x0 (256 : Int)))])), (SV.v (Value.bool m.halted))])) else (Tree.fail)) else (Tree.fail)) else (Tree.fail)) else (Tree.leaf (SV.agg [(SV.arr IntKind.u32 16 x2), (SV.v (Value.int IntKind.u32 (IntKind.wrap IntKind.u32 (m.core.pc + (4 : Int))))), (SV.arr IntKind.u32 12 m.core.csr), (SV.rd ETy.u8
 m.mem), (SV.v (Value.int IntKind.u64 m.time)), (SV.rd ETy.u8 m.out), (SV.v (Value.bool m.halted))]))))))) else (bif (BEq.beq i.op (22 : Int)) then (Tree.letv (okO [(AT.a IntKind.u32 12)]) (K.csrWrite m.core.csr (IntKind.wrap IntKind.i64 i.imm) x0) fun x1 => (bif (BEq.beq i.op (24 : Int)) then (bif (BEq.beq i.op (25 : Int)) then (bif (Bool.or (Bool.not (Nat.beq (List.length m.out) 0)) true) then (bif (Nat.ble ((0 + (List.length m.out)) * 1) 140737488355328) then (bif (Nat.ble (((List.length m.out) + 1) * 1) 140737488355328) then (Tree.leaf (SV.agg [(SV.arr IntKind.u32 16 m.core.regs), (SV.v (Value.int IntKind.u32 (IntKind.wrap IntKind.u32 (m.core.pc + (4 : Int))))), (SV.arr IntKind.u32 12 x1), (SV.rd ETy.u8 m.mem), (SV.v (Value.int IntKind.u64 m.time)), (SV.rd ETy.u8 (List.append m.out [(IntKind.wrap IntKind.u8 (Int.tmod x0 (256 : Int)))])), (SV.b true)])) else (Tree.fail)) else (Tree.fail)) else (Tree.fail)) else (Tree.leaf (SV.agg [(SV.arr IntKind.u32 16 m.core.regs), (SV.v (Value.int IntKind.u32 (IntKind.wrap IntKind.u32 (m.core.pc + (4 : Int))))), (SV.arr IntKind.u32 12 x1), (SV.rd ETy.u8 m.mem), (SV.v (Value.int IntKind.u64 m.time)), (SV.rd ETy.u8 m.out), (SV.b true)]))) else (bif (BEq.beq i.op (25 : Int)) then (bif (Bool.or (Bool.not (Nat.beq (List.length m.out) 0)) true) then (bif (Nat.ble ((0 + (List.length m.out)) * 1) 140737488355328) then (bif (Nat.ble (((List.length m.out) + 1) * 1) 140737488355328) then (Tree.leaf (SV.agg [(SV.arr IntKind.u32 16 m.core.regs), (SV.v
 (Value.int IntKind.u32 (IntKind.wrap IntKind.u32 (m.core.pc + (4 : Int))))), (SV.arr IntKind.u32 12 x1), (SV.rd ETy.u8 m.mem), (SV.v (Value.int IntKind.u64 m.time)), (SV.rd ETy.u8 (List.append m.out [(IntKind.wrap IntKind.u8 (Int.tmod x0 (256 : Int)))])), (SV.v (Value.bool m.halted))])) else (Tree.fail)) else (Tree.fail)) else (Tree.fail)) else (Tree.leaf (SV.agg [(SV.arr IntKind.u32 16 m.core.regs), (SV.v (Value.int IntKind.u32 (IntKind.wrap IntKind.u32 (m.core.pc + (4 : Int))))), (SV.arr IntKind.u32 12 x1), (SV.rd ETy.u8 m.mem), (SV.v (Value.int IntKind.u64 m.time)), (SV.rd ETy.u8 m.out), (SV.v (Value.bool m.halted))]))))) else (bif (BEq.beq i.op (24 : Int)) then (bif (BEq.beq i.op (25 : Int)) then (bif (Bool.or (Bool.not (Nat.beq (List.length m.out) 0)) true) then (bif (Nat.ble ((0 + (List.length m.out)) * 1) 140737488355328) then (bif (Nat.ble (((List.length m.out) + 1) * 1) 140737488355328) then (Tree.leaf (SV.agg [(SV.arr IntKind.u32 16 m.core.regs), (SV.v (Value.int IntKind.u32 (IntKind.wrap IntKind.u32 (m.core.pc + (4 : Int))))), (SV.arr IntKind.u32 12 m.core.csr), (SV.rd ETy.u8 m.mem), (SV.v (Value.int IntKind.u64 m.time)), (SV.rd ETy.u8 (List.append m.out [(IntKind.wrap IntKind.u8 (Int.tmod x0 (256 : Int)))])), (SV.b true)])) else (Tree.fail)) else (Tree.fail)) else (Tree.fail)) else (Tree.leaf (SV.agg [(SV.arr IntKind.u32 16 m.core.regs), (SV.v (Value.int IntKind.u32 (IntKind.wrap IntKind.u32 (m.core.pc + (4 : Int))))), (SV.arr IntKind.u32 12 m.core.csr), (SV.rd
 ETy.u8 m.mem), (SV.v (Value.int IntKind.u64 m.time)), (SV.rd ETy.u8 m.out), (SV.b true)]))) else (bif (BEq.beq i.op (25 : Int)) then (bif (Bool.or (Bool.not (Nat.beq (List.length m.out) 0)) true) then (bif (Nat.ble ((0 + (List.length m.out)) * 1) 140737488355328) then (bif (Nat.ble (((List.length m.out) + 1) * 1) 140737488355328) then (Tree.leaf (SV.agg [(SV.arr IntKind.u32 16 m.core.regs), (SV.v (Value.int IntKind.u32 (IntKind.wrap IntKind.u32 (m.core.pc + (4 : Int))))), (SV.arr IntKind.u32 12 m.core.csr), (SV.rd ETy.u8 m.mem), (SV.v (Value.int IntKind.u64 m.time)), (SV.rd ETy.u8 (List.append m.out [(IntKind.wrap IntKind.u8 (Int.tmod x0 (256 : Int)))])), (SV.v (Value.bool m.halted))])) else (Tree.fail)) else (Tree.fail)) else (Tree.fail)) else (Tree.leaf (SV.agg [(SV.arr IntKind.u32 16 m.core.regs), (SV.v (Value.int IntKind.u32 (IntKind.wrap IntKind.u32 (m.core.pc + (4 : Int))))), (SV.arr IntKind.u32 12 m.core.csr), (SV.rd ETy.u8 m.mem), (SV.v (Value.int IntKind.u64 m.time)), (SV.rd ETy.u8 m.out), (SV.v (Value.bool m.halted))]))))))) := by kernel_rfl
section
attribute [local irreducible] evF evFL evFLs evFP
theorem a_ref12_Do (m : PMach) (i : PInstr) (hpre : m.out.length ≤ 1099511627776) (ok_m : okMach m) (ok_i : okInstr i) : (evF E_ref12_Do 60 92 (encArgs [.mach, .instr] (m, i, ()))).ends fun out_ => decO [.mach] out_ = some (K.priv m i) := by
  rw [t_ref12_Do, Tree.ends_holds]
  obtain ⟨a, b⟩ := okI_i32 ok_i.imm
  have e1 : IntKind.i64.wrap i.imm = i.imm := wrapI64 (by omega) (by omega)
  obtain ⟨g0, g1⟩ := K.get_ok ok_m.core.regs i.ra
  have e2 : Int.tmod (K.get m.core.regs i.ra) 256 = K.get m.core.regs i.ra % 256 := Int.tmod_eq_emod_of_nonneg g0
  simp only [Tree.holds_loop, Tree.holds_fork, Tree.holds_next, if_true, Tree.holds_cond, Tree.holds_letv, Tree.holds_leaf, Tree.holds_fail, decO, decA, decTup, decMach, decCore, decTrap, decInstr, decPart, decGuest, decConf, decEvent, decVcpu, decStep, bytesS, boolS, eventsS, intsS, guestsS, vcpusS, rowS, castL, Option.bind_some, Option.map_some, Option.some.injEq, Nat.beq_refl, beq_self_eq_true, Bool.and_self, cond_true, cond_false, eq_self, e1, e2, wrap8, wrap32, beq_iff_eq, beq_eq_false_iff_ne, bne_iff_ne, bne_eq_false_iff_eq, ne_eq, decide_eq_true_eq, decide_eq_false_iff_not, ble_true, ble_false, inRange_iff, inRange_false, List.drop_zero, Int.ofNat_eq_natCast, Int.toNat_natCast, List.take_length, List.append_eq, Bool.and_eq_true, decide_true, and_true, true_and, Int.emod_emod]
  repeat' (first | refine drop_ok ?_ | intro _ | with_reducible apply And.intro)
  all_goals first | omega | (simp_all [K.priv, K.adv]; done) | skip
  
theorem c_ref12_Do : SpecOk EB 92 S_ref12_Do := spec_sig ok_ref12_Do (n := 60) fun ⟨m, i, ⟨⟩⟩ h hok => a_ref12_Do m i (of_decide_eq_true h) (ok_mach (okSL_head hok)) (ok_instr (okSL_head (okSL_tail hok)))
end

/-! ref11_times -/

def S_ref11_times : Spec := sig [.i .i32, .i .i64] [.i .u32] (fun (n, by_, _) => n * by_ % 4294967296) (pre := fun (n, by_, _) => decide (0 ≤ by_ ∧ by_ ≤ 65536))
noncomputable def E_ref11_times : Env := EB.adds []

theorem ok_ref11_times : EnvOk E_ref11_times := okEB.adds (l := _) trivial
theorem t_ref11_times (n : Int) (by_ : Int) : evF E_ref11_times 60 129 (encArgs [.i .i32, .i .i64] (n, by_, ())) = Tree.leaf (SV.v (Value.int IntKind.u32 (IntKind.wrap IntKind.u32 (Int.tmod (IntKind.wrap IntKind.i64 ((Int.tmod (IntKind.wrap IntKind.i64 ((IntKind.wrap IntKind.i64 n) * by_)) (4294967296 : Int)) + (4294967296 : Int))) (4294967296 : Int))))) := by kernel_rfl
section
attribute [local irreducible] evF evFL evFLs evFP
theorem a_ref11_times (n : Int) (by_ : Int) (hpre : 0 ≤ by_ ∧ by_ ≤ 65536) (ok_n : okI .i32 n) (ok_by_ : okI .i64 by_) : (evF E_ref11_times 60 129 (encArgs [.i .i32, .i .i64] (n, by_, ()))).ends fun out_ => decO [.i .u32] out_ = some (n * by_ % 4294967296) := by
  rw [t_ref11_times, Tree.ends_holds]
  obtain ⟨n0, n1⟩ := okI_i32 ok_n
  have e0 : IntKind.i64.wrap n = n := wrapI64 (by omega) (by omega)
  have hb : -281474976710656 ≤ n * by_ ∧ n * by_ ≤ 281474976710656 := by
    have h1 : n * by_ ≤ 2147483648 * by_ := Int.mul_le_mul_of_nonneg_right (by omega) hpre.1
    have h2 : (-2147483648) * by_ ≤ n * by_ := Int.mul_le_mul_of_nonneg_right (by omega) hpre.1
    omega
  simp only [Tree.holds_loop, Tree.holds_fork, Tree.holds_next, if_true, Tree.holds_cond, Tree.holds_letv, Tree.holds_leaf, Tree.holds_fail, decO, decA, decTup, decMach, decCore, decTrap, decInstr, decPart, decGuest, decConf, decEvent, decVcpu, decStep, bytesS, boolS, eventsS, intsS, guestsS, vcpusS, rowS, castL, Option.bind_some, Option.map_some, Option.some.injEq, Nat.beq_refl, beq_self_eq_true, Bool.and_self, cond_true, cond_false, eq_self, beq_iff_eq, beq_eq_false_iff_ne, bne_iff_ne, bne_eq_false_iff_eq, ne_eq, decide_eq_true_eq, decide_eq_false_iff_not, ble_true, ble_false, inRange_iff, inRange_false, e0]
  generalize n * by_ = z at *
  have e1 : IntKind.i64.wrap by_ = by_ := wrapI64 (by omega) (by omega)
  have e2 : IntKind.i64.wrap z = z := wrapI64 (by omega) (by omega)
  have hm : Int.tmod z 4294967296 = z % 4294967296 ∨ Int.tmod z 4294967296 = z % 4294967296 - 4294967296 := by
    by_cases h : 0 ≤ z
    · exact .inl (Int.tmod_eq_emod_of_nonneg h)
    · rw [Int.tmod_eq_emod]; split <;> simp <;> omega
  have e3 : IntKind.i64.wrap (Int.tmod z 4294967296 + 4294967296) = Int.tmod z 4294967296 + 4294967296 := wrapI64 (by omega) (by omega)
  have e4 : Int.tmod (Int.tmod z 4294967296 + 4294967296) 4294967296 = z % 4294967296 := by
    rw [Int.tmod_eq_emod_of_nonneg (by omega)]; omega
  have e5 : IntKind.u32.wrap (z % 4294967296) = z % 4294967296 := by rw [wrap32]; omega
  simp only [e1, e2, e3, e4, e5]
  repeat' (first | refine drop_ok ?_ | intro _ | with_reducible apply And.intro)
  
theorem c_ref11_times : SpecOk EB 129 S_ref11_times := spec_sig ok_ref11_times (n := 60) fun ⟨n, by_, ⟨⟩⟩ h hok => a_ref11_times n by_ (of_decide_eq_true h) (ok_int (okSL_head hok)) (ok_int (okSL_head (okSL_tail hok)))
end

/-! ref11_put -/

def S_ref11_put : Spec := sig [.mach, .i .i64, .i .u32, .i .u32] [.mach] (fun (m, rd, v, by_, _) => K.wput m rd v ((m.core.pc + by_) % 4294967296))
noncomputable def E_ref11_put : Env := EB.adds [(126, S_ref07_Put)]

theorem ok_ref11_put : EnvOk E_ref11_put := okEB.adds (l := _) ⟨c_ref07_Put, trivial⟩
theorem t_ref11_put (m : PMach) (rd : Int) (v : Int) (by_ : Int) : evF E_ref11_put 60 130 (encArgs [.mach, .i .i64, .i .u32, .i .u32] (m, rd, v, by_, ())) = Tree.letv (okO [(AT.a IntKind.u32 16)]) (K.put m.core.regs rd v) fun x0 => (Tree.leaf (SV.agg [(SV.arr IntKind.u32 16 x0), (SV.v (Value.int IntKind.u32 (IntKind.wrap IntKind.u32 (m.core.pc + by_)))), (SV.arr IntKind.u32 12 m.core.csr), (SV.rd ETy.u8 m.mem), (SV.v (Value.int IntKind.u64 m.time)), (SV.rd ETy.u8 m.out), (SV.v (Value.bool m.halted))])) := by kernel_rfl
section
attribute [local irreducible] evF evFL evFLs evFP
theorem a_ref11_put (m : PMach) (rd : Int) (v : Int) (by_ : Int) (ok_m : okMach m) (ok_rd : okI .i64 rd) (ok_v : okI .u32 v) (ok_by_ : okI .u32 by_) : (evF E_ref11_put 60 130 (encArgs [.mach, .i .i64, .i .u32, .i .u32] (m, rd, v, by_, ()))).ends fun out_ => decO [.mach] out_ = some (K.wput m rd v ((m.core.pc + by_) % 4294967296)) := by
  rw [t_ref11_put, Tree.ends_holds]
  simp only [Tree.holds_loop, Tree.holds_fork, Tree.holds_next, if_true, Tree.holds_cond, Tree.holds_letv, Tree.holds_leaf, Tree.holds_fail, decO, decA, decTup, decMach, decCore, decTrap, decInstr, decPart, decGuest, decConf, decEvent, decVcpu, decStep, bytesS, boolS, eventsS, intsS, guestsS, vcpusS, rowS, castL, Option.bind_some, Option.map_some, Option.some.injEq, Nat.beq_refl, beq_self_eq_true, Bool.and_self, cond_true, cond_false, eq_self, beq_iff_eq, beq_eq_false_iff_ne, bne_iff_ne, bne_eq_false_iff_eq, ne_eq, decide_eq_true_eq, decide_eq_false_iff_not, ble_true, ble_false, inRange_iff, inRange_false, wrap32, K.wput]
  repeat' (first | refine drop_ok ?_ | intro _ | with_reducible apply And.intro)
  all_goals trivial
  
theorem c_ref11_put : SpecOk EB 130 S_ref11_put := spec_sig ok_ref11_put (n := 60) fun ⟨m, rd, v, by_, ⟨⟩⟩ h hok => a_ref11_put m rd v by_ (ok_mach (okSL_head hok)) (ok_int (okSL_head (okSL_tail hok))) (ok_int (okSL_head (okSL_tail (okSL_tail hok)))) (ok_int (okSL_head (okSL_tail (okSL_tail (okSL_tail hok)))))
end

/-! ref08_bitwise -/
@[reducible] def L_ref08_bitwise (op x y : Int) : LoopSpec where
  σ := Nat
  slots := [0, 1, 2, 7, 8]
  keys := []
  vals := fun j => [.v (.int .i64 op), .v (.int .u32 x), .v (.int .u32 y), .v (.int .u64 ((K.bw op x.toNat y.toNat % 2 ^ j : Nat) : Int)), .v (.int .i64 (j : Int))]
  blks := fun _ => []
  inv := fun j => j ≤ 32
  mu := fun j => 32 - j
def S_ref08_bitwise : Spec := sig [.i .i64, .i .u32, .i .u32] [.i .u32] (fun (op, x, y, _) => K.alu op x y) (pre := fun (op, x, y, _) => decide (3 ≤ op ∧ op ≤ 5))
noncomputable def E_ref08_bitwise : Env := EB.adds [(94, S_ref01_Field), (98, S_ref01_Pow)]

theorem ok_ref08_bitwise : EnvOk E_ref08_bitwise := okEB.adds (l := _) ⟨c_ref01_Field, c_ref01_Pow, trivial⟩
theorem t_ref08_bitwise (op : Int) (x : Int) (y : Int) : evFL E_ref08_bitwise (fun _ => some (L_ref08_bitwise op x y)) 60 145 (encArgs [.i .i64, .i .u32, .i .u32] (op, x, y, ())) = Tree.loop 0 (L_ref08_bitwise op x y) [(SV.v (Value.int IntKind.i64 op)), (SV.v (Value.int IntKind.u32 x)), (SV.v (Value.int IntKind.u32 y)), (SV.v (Value.int IntKind.u64 (0 : Int))), (SV.v (Value.int IntKind.i64 (0 : Int)))] [] fun (x0 : Nat) => (bif (decide ((Int.ofNat x0) < (32 : Int))) then (bif (decide (And ((Int.ofNat x0) ≤ (63 : Int)) ((1 : Int) ≤ (63 : Int)))) then (Tree.letv (okO [(AT.i IntKind.u32)]) (K.field x (Int.ofNat x0) (1 : Int)) fun x1 => (bif (BEq.beq x1 (1 : Int)) then (bif (decide (And ((Int.ofNat x0) ≤ (63 : Int)) ((1 : Int) ≤ (63 : Int)))) then (Tree.letv (okO [(AT.i IntKind.u32)]) (K.field y (Int.ofNat x0) (1 : Int)) fun x2 => (bif (BEq.beq x2 (1 : Int)) then (bif (BEq.beq op (3 : Int)) then (bif (decide ((Int.ofNat x0) ≤ (63 : Int))) then (Tree.letv (okO [(AT.i IntKind.u64)]) (K.pow (Int.ofNat x0)) fun x3 => ((Tree.next 0 [(SV.v (Value.int IntKind.i64 op)), (SV.v (Value.int IntKind.u32 x)), (SV.v (Value.int IntKind.u32 y)), (SV.v (Value.int IntKind.u64 (IntKind.wrap IntKind.u64 ((Int.ofNat ((K.bw op (Int.toNat x) (Int.toNat y)) % (2 ^ x0))) + x3)))), (SV.v (Value.int IntKind.i64 (IntKind.wrap IntKind.i64 ((Int.ofNat x0) + (1 : Int)))))] []))) else (Tree.fail)) else (bif (BEq.beq op (4 : Int)) then (bif (decide ((Int.ofNat x0) ≤ (63 : Int))) then (Tree.letv (okO [(AT.i
 IntKind.u64)]) (K.pow (Int.ofNat x0)) fun x3 => ((Tree.next 0 [(SV.v (Value.int IntKind.i64 op)), (SV.v (Value.int IntKind.u32 x)), (SV.v (Value.int IntKind.u32 y)), (SV.v (Value.int IntKind.u64 (IntKind.wrap IntKind.u64 ((Int.ofNat ((K.bw op (Int.toNat x) (Int.toNat y)) % (2 ^ x0))) + x3)))), (SV.v (Value.int IntKind.i64 (IntKind.wrap IntKind.i64 ((Int.ofNat x0) + (1 : Int)))))] []))) else (Tree.fail)) else (bif (BEq.beq op (5 : Int)) then ((Tree.next 0 [(SV.v (Value.int IntKind.i64 op)), (SV.v (Value.int IntKind.u32 x)), (SV.v (Value.int IntKind.u32 y)), (SV.v (Value.int IntKind.u64 (Int.ofNat ((K.bw op (Int.toNat x) (Int.toNat y)) % (2 ^ x0))))), (SV.v (Value.int IntKind.i64 (IntKind.wrap IntKind.i64 ((Int.ofNat x0) + (1 : Int)))))] [])) else ((Tree.next 0 [(SV.v (Value.int IntKind.i64 op)), (SV.v (Value.int IntKind.u32 x)), (SV.v (Value.int IntKind.u32 y)), (SV.v (Value.int IntKind.u64 (Int.ofNat ((K.bw op (Int.toNat x) (Int.toNat y)) % (2 ^ x0))))), (SV.v (Value.int IntKind.i64 (IntKind.wrap IntKind.i64 ((Int.ofNat x0) + (1 : Int)))))] []))))) else (bif (BEq.beq op (3 : Int)) then (bif (BEq.beq op (4 : Int)) then (bif (decide ((Int.ofNat x0) ≤ (63 : Int))) then (Tree.letv (okO [(AT.i IntKind.u64)]) (K.pow (Int.ofNat x0)) fun x3 => ((Tree.next 0 [(SV.v (Value.int IntKind.i64 op)), (SV.v (Value.int IntKind.u32 x)), (SV.v (Value.int IntKind.u32 y)), (SV.v (Value.int IntKind.u64 (IntKind.wrap IntKind.u64 ((Int.ofNat ((K.bw op (Int.toNat x) (Int.toNat y)) % (2 ^ x0))) +
 x3)))), (SV.v (Value.int IntKind.i64 (IntKind.wrap IntKind.i64 ((Int.ofNat x0) + (1 : Int)))))] []))) else (Tree.fail)) else (bif (BEq.beq op (5 : Int)) then (bif (decide ((Int.ofNat x0) ≤ (63 : Int))) then (Tree.letv (okO [(AT.i IntKind.u64)]) (K.pow (Int.ofNat x0)) fun x3 => ((Tree.next 0 [(SV.v (Value.int IntKind.i64 op)), (SV.v (Value.int IntKind.u32 x)), (SV.v (Value.int IntKind.u32 y)), (SV.v (Value.int IntKind.u64 (IntKind.wrap IntKind.u64 ((Int.ofNat ((K.bw op (Int.toNat x) (Int.toNat y)) % (2 ^ x0))) + x3)))), (SV.v (Value.int IntKind.i64 (IntKind.wrap IntKind.i64 ((Int.ofNat x0) + (1 : Int)))))] []))) else (Tree.fail)) else ((Tree.next 0 [(SV.v (Value.int IntKind.i64 op)), (SV.v (Value.int IntKind.u32 x)), (SV.v (Value.int IntKind.u32 y)), (SV.v (Value.int IntKind.u64 (Int.ofNat ((K.bw op (Int.toNat x) (Int.toNat y)) % (2 ^ x0))))), (SV.v (Value.int IntKind.i64 (IntKind.wrap IntKind.i64 ((Int.ofNat x0) + (1 : Int)))))] [])))) else (bif (BEq.beq op (4 : Int)) then (bif (decide ((Int.ofNat x0) ≤ (63 : Int))) then (Tree.letv (okO [(AT.i IntKind.u64)]) (K.pow (Int.ofNat x0)) fun x3 => ((Tree.next 0 [(SV.v (Value.int IntKind.i64 op)), (SV.v (Value.int IntKind.u32 x)), (SV.v (Value.int IntKind.u32 y)), (SV.v (Value.int IntKind.u64 (IntKind.wrap IntKind.u64 ((Int.ofNat ((K.bw op (Int.toNat x) (Int.toNat y)) % (2 ^ x0))) + x3)))), (SV.v (Value.int IntKind.i64 (IntKind.wrap IntKind.i64 ((Int.ofNat x0) + (1 : Int)))))] []))) else (Tree.fail)) else (bif (BEq.beq op (5 : Int))
 then (bif (decide ((Int.ofNat x0) ≤ (63 : Int))) then (Tree.letv (okO [(AT.i IntKind.u64)]) (K.pow (Int.ofNat x0)) fun x3 => ((Tree.next 0 [(SV.v (Value.int IntKind.i64 op)), (SV.v (Value.int IntKind.u32 x)), (SV.v (Value.int IntKind.u32 y)), (SV.v (Value.int IntKind.u64 (IntKind.wrap IntKind.u64 ((Int.ofNat ((K.bw op (Int.toNat x) (Int.toNat y)) % (2 ^ x0))) + x3)))), (SV.v (Value.int IntKind.i64 (IntKind.wrap IntKind.i64 ((Int.ofNat x0) + (1 : Int)))))] []))) else (Tree.fail)) else ((Tree.next 0 [(SV.v (Value.int IntKind.i64 op)), (SV.v (Value.int IntKind.u32 x)), (SV.v (Value.int IntKind.u32 y)), (SV.v (Value.int IntKind.u64 (Int.ofNat ((K.bw op (Int.toNat x) (Int.toNat y)) % (2 ^ x0))))), (SV.v (Value.int IntKind.i64 (IntKind.wrap IntKind.i64 ((Int.ofNat x0) + (1 : Int)))))] []))))))) else (Tree.fail)) else (bif (decide (And ((Int.ofNat x0) ≤ (63 : Int)) ((1 : Int) ≤ (63 : Int)))) then (Tree.letv (okO [(AT.i IntKind.u32)]) (K.field y (Int.ofNat x0) (1 : Int)) fun x2 => (bif (BEq.beq x2 (1 : Int)) then (bif (BEq.beq op (3 : Int)) then (bif (BEq.beq op (4 : Int)) then (bif (decide ((Int.ofNat x0) ≤ (63 : Int))) then (Tree.letv (okO [(AT.i IntKind.u64)]) (K.pow (Int.ofNat x0)) fun x3 => ((Tree.next 0 [(SV.v (Value.int IntKind.i64 op)), (SV.v (Value.int IntKind.u32 x)), (SV.v (Value.int IntKind.u32 y)), (SV.v (Value.int IntKind.u64 (IntKind.wrap IntKind.u64 ((Int.ofNat ((K.bw op (Int.toNat x) (Int.toNat y)) % (2 ^ x0))) + x3)))), (SV.v (Value.int IntKind.i64 (IntKind.wrap
 IntKind.i64 ((Int.ofNat x0) + (1 : Int)))))] []))) else (Tree.fail)) else (bif (BEq.beq op (5 : Int)) then (bif (decide ((Int.ofNat x0) ≤ (63 : Int))) then (Tree.letv (okO [(AT.i IntKind.u64)]) (K.pow (Int.ofNat x0)) fun x3 => ((Tree.next 0 [(SV.v (Value.int IntKind.i64 op)), (SV.v (Value.int IntKind.u32 x)), (SV.v (Value.int IntKind.u32 y)), (SV.v (Value.int IntKind.u64 (IntKind.wrap IntKind.u64 ((Int.ofNat ((K.bw op (Int.toNat x) (Int.toNat y)) % (2 ^ x0))) + x3)))), (SV.v (Value.int IntKind.i64 (IntKind.wrap IntKind.i64 ((Int.ofNat x0) + (1 : Int)))))] []))) else (Tree.fail)) else ((Tree.next 0 [(SV.v (Value.int IntKind.i64 op)), (SV.v (Value.int IntKind.u32 x)), (SV.v (Value.int IntKind.u32 y)), (SV.v (Value.int IntKind.u64 (Int.ofNat ((K.bw op (Int.toNat x) (Int.toNat y)) % (2 ^ x0))))), (SV.v (Value.int IntKind.i64 (IntKind.wrap IntKind.i64 ((Int.ofNat x0) + (1 : Int)))))] [])))) else (bif (BEq.beq op (4 : Int)) then (bif (decide ((Int.ofNat x0) ≤ (63 : Int))) then (Tree.letv (okO [(AT.i IntKind.u64)]) (K.pow (Int.ofNat x0)) fun x3 => ((Tree.next 0 [(SV.v (Value.int IntKind.i64 op)), (SV.v (Value.int IntKind.u32 x)), (SV.v (Value.int IntKind.u32 y)), (SV.v (Value.int IntKind.u64 (IntKind.wrap IntKind.u64 ((Int.ofNat ((K.bw op (Int.toNat x) (Int.toNat y)) % (2 ^ x0))) + x3)))), (SV.v (Value.int IntKind.i64 (IntKind.wrap IntKind.i64 ((Int.ofNat x0) + (1 : Int)))))] []))) else (Tree.fail)) else (bif (BEq.beq op (5 : Int)) then (bif (decide ((Int.ofNat x0) ≤ (63 : Int)))
 then (Tree.letv (okO [(AT.i IntKind.u64)]) (K.pow (Int.ofNat x0)) fun x3 => ((Tree.next 0 [(SV.v (Value.int IntKind.i64 op)), (SV.v (Value.int IntKind.u32 x)), (SV.v (Value.int IntKind.u32 y)), (SV.v (Value.int IntKind.u64 (IntKind.wrap IntKind.u64 ((Int.ofNat ((K.bw op (Int.toNat x) (Int.toNat y)) % (2 ^ x0))) + x3)))), (SV.v (Value.int IntKind.i64 (IntKind.wrap IntKind.i64 ((Int.ofNat x0) + (1 : Int)))))] []))) else (Tree.fail)) else ((Tree.next 0 [(SV.v (Value.int IntKind.i64 op)), (SV.v (Value.int IntKind.u32 x)), (SV.v (Value.int IntKind.u32 y)), (SV.v (Value.int IntKind.u64 (Int.ofNat ((K.bw op (Int.toNat x) (Int.toNat y)) % (2 ^ x0))))), (SV.v (Value.int IntKind.i64 (IntKind.wrap IntKind.i64 ((Int.ofNat x0) + (1 : Int)))))] []))))) else (bif (BEq.beq op (3 : Int)) then (bif (BEq.beq op (4 : Int)) then (bif (BEq.beq op (5 : Int)) then ((Tree.next 0 [(SV.v (Value.int IntKind.i64 op)), (SV.v (Value.int IntKind.u32 x)), (SV.v (Value.int IntKind.u32 y)), (SV.v (Value.int IntKind.u64 (Int.ofNat ((K.bw op (Int.toNat x) (Int.toNat y)) % (2 ^ x0))))), (SV.v (Value.int IntKind.i64 (IntKind.wrap IntKind.i64 ((Int.ofNat x0) + (1 : Int)))))] [])) else ((Tree.next 0 [(SV.v (Value.int IntKind.i64 op)), (SV.v (Value.int IntKind.u32 x)), (SV.v (Value.int IntKind.u32 y)), (SV.v (Value.int IntKind.u64 (Int.ofNat ((K.bw op (Int.toNat x) (Int.toNat y)) % (2 ^ x0))))), (SV.v (Value.int IntKind.i64 (IntKind.wrap IntKind.i64 ((Int.ofNat x0) + (1 : Int)))))] []))) else (bif (BEq.beq op (5 :
 Int)) then ((Tree.next 0 [(SV.v (Value.int IntKind.i64 op)), (SV.v (Value.int IntKind.u32 x)), (SV.v (Value.int IntKind.u32 y)), (SV.v (Value.int IntKind.u64 (Int.ofNat ((K.bw op (Int.toNat x) (Int.toNat y)) % (2 ^ x0))))), (SV.v (Value.int IntKind.i64 (IntKind.wrap IntKind.i64 ((Int.ofNat x0) + (1 : Int)))))] [])) else ((Tree.next 0 [(SV.v (Value.int IntKind.i64 op)), (SV.v (Value.int IntKind.u32 x)), (SV.v (Value.int IntKind.u32 y)), (SV.v (Value.int IntKind.u64 (Int.ofNat ((K.bw op (Int.toNat x) (Int.toNat y)) % (2 ^ x0))))), (SV.v (Value.int IntKind.i64 (IntKind.wrap IntKind.i64 ((Int.ofNat x0) + (1 : Int)))))] [])))) else (bif (BEq.beq op (4 : Int)) then (bif (BEq.beq op (5 : Int)) then ((Tree.next 0 [(SV.v (Value.int IntKind.i64 op)), (SV.v (Value.int IntKind.u32 x)), (SV.v (Value.int IntKind.u32 y)), (SV.v (Value.int IntKind.u64 (Int.ofNat ((K.bw op (Int.toNat x) (Int.toNat y)) % (2 ^ x0))))), (SV.v (Value.int IntKind.i64 (IntKind.wrap IntKind.i64 ((Int.ofNat x0) + (1 : Int)))))] [])) else ((Tree.next 0 [(SV.v (Value.int IntKind.i64 op)), (SV.v (Value.int IntKind.u32 x)), (SV.v (Value.int IntKind.u32 y)), (SV.v (Value.int IntKind.u64 (Int.ofNat ((K.bw op (Int.toNat x) (Int.toNat y)) % (2 ^ x0))))), (SV.v (Value.int IntKind.i64 (IntKind.wrap IntKind.i64 ((Int.ofNat x0) + (1 : Int)))))] []))) else (bif (BEq.beq op (5 : Int)) then ((Tree.next 0 [(SV.v (Value.int IntKind.i64 op)), (SV.v (Value.int IntKind.u32 x)), (SV.v (Value.int IntKind.u32 y)), (SV.v (Value.int
 IntKind.u64 (Int.ofNat ((K.bw op (Int.toNat x) (Int.toNat y)) % (2 ^ x0))))), (SV.v (Value.int IntKind.i64 (IntKind.wrap IntKind.i64 ((Int.ofNat x0) + (1 : Int)))))] [])) else ((Tree.next 0 [(SV.v (Value.int IntKind.i64 op)), (SV.v (Value.int IntKind.u32 x)), (SV.v (Value.int IntKind.u32 y)), (SV.v (Value.int IntKind.u64 (Int.ofNat ((K.bw op (Int.toNat x) (Int.toNat y)) % (2 ^ x0))))), (SV.v (Value.int IntKind.i64 (IntKind.wrap IntKind.i64 ((Int.ofNat x0) + (1 : Int)))))] []))))))) else (Tree.fail)))) else (Tree.fail)) else (Tree.leaf (SV.v (Value.int IntKind.u32 (IntKind.wrap IntKind.u32 (Int.ofNat ((K.bw op (Int.toNat x) (Int.toNat y)) % (2 ^ x0)))))))) := by kernel_rfl
section
attribute [local irreducible] evF evFL evFLs evFP
theorem a_ref08_bitwise (op : Int) (x : Int) (y : Int) (hpre : 3 ≤ op ∧ op ≤ 5) (ok_op : okI .i64 op) (ok_x : okI .u32 x) (ok_y : okI .u32 y) : (evFL E_ref08_bitwise (fun _ => some (L_ref08_bitwise op x y)) 60 145 (encArgs [.i .i64, .i .u32, .i .u32] (op, x, y, ()))).ends fun out_ => decO [.i .u32] out_ = some (K.alu op x y) := by
  rw [t_ref08_bitwise, Tree.ends_holds]
  obtain ⟨x0, x1⟩ := okI_u32 ok_x
  obtain ⟨y0, y1⟩ := okI_u32 ok_y
  obtain ⟨x, rfl⟩ := Int.eq_ofNat_of_zero_le x0
  obtain ⟨y, rfl⟩ := Int.eq_ofNat_of_zero_le y0
  have hT := bw_lt (op := op) (a := x) (b := y) (by omega) (by omega)
  have hbit := fun i => bw_bit op x y i
  rw [alu_bw hpre (by omega) (by omega)]
  simp only [Tree.holds_loop]
  refine ⟨⟨(0 : Nat), by simp [Nat.mod_one], rfl, Nat.zero_le _, trivial⟩, fun (j : Nat) (hj : j ≤ 32) => ?_⟩
  have nx : j < 32 → ∀ z : Int, z = ((K.bw op x y % 2 ^ (j + 1) : Nat) : Int) → (L_ref08_bitwise op x y).at (fun y_1 => (L_ref08_bitwise op x y).mu y_1 < (L_ref08_bitwise op x y).mu j) [SV.v (.int .i64 op), .v (.int .u32 (x : Int)), .v (.int .u32 (y : Int)), .v (.int .u64 z), .v (.int .i64 (IntKind.i64.wrap ((j : Int) + 1)))] [] := fun h z hz => by
    have e2 : IntKind.i64.wrap ((j : Int) + 1) = ((j + 1 : Nat) : Int) := by rw [wrapI64 (by omega) (by omega)]; rfl
    refine ⟨j + 1, ?_, rfl, ?_, ?_⟩
    · rw [hz, e2]; rfl
    · show j + 1 ≤ 32; omega
    · show 32 - (j + 1) < 32 - j; omega
  have hb := hbit j
  have hm := bit_more_aux (K.bw op x y) j
  have hlt : K.bw op x y % 2 ^ j < 2 ^ j := Nat.mod_lt _ (Nat.two_pow_pos j)
  have h2 := pow_le32 hj
  have t1 : (K.bw op x y).testBit j = true → j < 32 → IntKind.u64.wrap (((K.bw op x y % 2 ^ j : Nat) : Int) + K.pow (j : Int)) = ((K.bw op x y % 2 ^ (j + 1) : Nat) : Int) := fun h hj => by
    rw [hm, h]; unfold K.pow; rw [wrap64]; simp only [Bool.toNat_true, Int.toNat_natCast]; omega
  have t0 : (K.bw op x y).testBit j = false → ((K.bw op x y % 2 ^ j : Nat) : Int) = ((K.bw op x y % 2 ^ (j + 1) : Nat) : Int) := fun h => by
    rw [hm, h]; simp
  simp only [Tree.holds_loop, Tree.holds_fork, Tree.holds_next, if_true, Tree.holds_cond, Tree.holds_letv, Tree.holds_leaf, Tree.holds_fail, decO, decA, decTup, decMach, decCore, decTrap, decInstr, decPart, decGuest, decConf, decEvent, decVcpu, decStep, bytesS, boolS, eventsS, intsS, guestsS, vcpusS, rowS, castL, Option.bind_some, Option.map_some, Option.some.injEq, Nat.beq_refl, beq_self_eq_true, Bool.and_self, cond_true, cond_false, eq_self, beq_iff_eq, beq_eq_false_iff_ne, bne_iff_ne, bne_eq_false_iff_eq, ne_eq, decide_eq_true_eq, decide_eq_false_iff_not, ble_true, ble_false, inRange_iff, inRange_false, Int.ofNat_eq_natCast, Int.toNat_natCast, field_bit]
  generalize hX : x.testBit j = bx at *
  generalize hY : y.testBit j = bY at *
  generalize hZ : (K.bw op x y).testBit j = bz at *
  clear hX hY hZ hbit hm
  have fin : ¬ j < 32 → IntKind.u32.wrap ((K.bw op x y % 2 ^ j : Nat) : Int) = ((K.bw op x y : Nat) : Int) := fun h => by
    have : j = 32 := by omega
    subst this
    rw [Nat.mod_eq_of_lt (show K.bw op x y < 2 ^ 32 by omega), wrap32]; omega
  clear hlt
  generalize ((K.bw op x y % 2 ^ j : Nat) : Int) = A at *
  generalize ((K.bw op x y % 2 ^ (j + 1) : Nat) : Int) = B at *
  generalize ((K.bw op x y : Nat) : Int) = C at *
  have h3 : op = 3 ∨ op = 4 ∨ op = 5 := by omega
  rcases h3 with rfl | rfl | rfl <;> cases bx <;> cases bY <;> simp at hb <;> subst hb <;> simp at t1 t0 ⊢ <;>
    (repeat' (first | intro _ | with_reducible apply And.intro)) <;> (try intros) <;> first | omega | exact nx (by omega) _ (t1 (by omega)) | exact nx (by omega) _ t0 | (rw [fin (by omega)]) | trace_state
  
theorem c_ref08_bitwise : SpecOk EB 145 S_ref08_bitwise := spec_sigL ok_ref08_bitwise (n := 60) (fun (op, x, y, _) => fun _ => some (L_ref08_bitwise op x y)) fun ⟨op, x, y, ⟨⟩⟩ h hok => a_ref08_bitwise op x y (of_decide_eq_true h) (ok_int (okSL_head hok)) (ok_int (okSL_head (okSL_tail hok))) (ok_int (okSL_head (okSL_tail (okSL_tail hok))))
end

/-! ref08_signed -/

def S_ref08_signed : Spec := sig [.i .u32] [.i .i64] (fun (x, _) => K.sgn x)
noncomputable def E_ref08_signed : Env := EB.adds []

theorem ok_ref08_signed : EnvOk E_ref08_signed := okEB.adds (l := _) trivial
theorem t_ref08_signed (x : Int) : evF E_ref08_signed 60 146 (encArgs [.i .u32] (x, ())) = bif (decide (x ≥ (2147483648 : Int))) then (Tree.leaf (SV.v (Value.int IntKind.i64 (IntKind.wrap IntKind.i64 ((IntKind.wrap IntKind.i64 x) - (4294967296 : Int)))))) else (Tree.leaf (SV.v (Value.int IntKind.i64 (IntKind.wrap IntKind.i64 x)))) := by kernel_rfl
section
attribute [local irreducible] evF evFL evFLs evFP
theorem a_ref08_signed (x : Int) (ok_x : okI .u32 x) : (evF E_ref08_signed 60 146 (encArgs [.i .u32] (x, ()))).ends fun out_ => decO [.i .i64] out_ = some (K.sgn x) := by
  rw [t_ref08_signed, Tree.ends_holds]
  obtain ⟨x0, x1⟩ := okI_u32 ok_x
  have e1 : IntKind.i64.wrap x = x := wrapI64 (by omega) (by omega)
  have e2 : IntKind.i64.wrap (x - 4294967296) = x - 4294967296 := wrapI64 (by omega) (by omega)
  simp only [Tree.holds_loop, Tree.holds_fork, Tree.holds_next, if_true, Tree.holds_cond, Tree.holds_letv, Tree.holds_leaf, Tree.holds_fail, decO, decA, decTup, decMach, decCore, decTrap, decInstr, decPart, decGuest, decConf, decEvent, decVcpu, decStep, bytesS, boolS, eventsS, intsS, guestsS, vcpusS, rowS, castL, Option.bind_some, Option.map_some, Option.some.injEq, Nat.beq_refl, beq_self_eq_true, Bool.and_self, cond_true, cond_false, eq_self, beq_iff_eq, beq_eq_false_iff_ne, bne_iff_ne, bne_eq_false_iff_eq, ne_eq, decide_eq_true_eq, decide_eq_false_iff_not, ble_true, ble_false, inRange_iff, inRange_false, K.sgn, e1, e2]
  repeat' (first | refine drop_ok ?_ | intro _ | with_reducible apply And.intro)
  all_goals first | (rw [if_pos (by omega)]; done) | (rw [if_neg (by omega)]; done)
  
theorem c_ref08_signed : SpecOk EB 146 S_ref08_signed := spec_sig ok_ref08_signed (n := 60) fun ⟨x, ⟨⟩⟩ h hok => a_ref08_signed x (ok_int (okSL_head hok))
end

/-! ref08_Do -/

def S_ref08_Do : Spec := sig [.i .i64, .i .u32, .i .u32] [.i .u32] (fun (op, x, y, _) => K.alu op x y)
noncomputable def E_ref08_Do : Env := EB.adds [(145, S_ref08_bitwise), (146, S_ref08_signed), (98, S_ref01_Pow)]

theorem ok_ref08_Do : EnvOk E_ref08_Do := okEB.adds (l := _) ⟨c_ref08_bitwise, c_ref08_signed, c_ref01_Pow, trivial⟩
theorem t_ref08_Do (op : Int) (x : Int) (y : Int) : evF E_ref08_Do 60 131 (encArgs [.i .i64, .i .u32, .i .u32] (op, x, y, ())) = bif (BEq.beq op (1 : Int)) then (Tree.leaf (SV.v (Value.int IntKind.u32 (IntKind.wrap IntKind.u32 (Int.tmod (IntKind.wrap IntKind.u64 ((IntKind.wrap IntKind.u64 x) + (IntKind.wrap IntKind.u64 y))) (4294967296 : Int)))))) else (bif (BEq.beq op (2 : Int)) then (Tree.leaf (SV.v (Value.int IntKind.u32 (IntKind.wrap IntKind.u32 (Int.tmod (IntKind.wrap IntKind.u64 ((IntKind.wrap IntKind.u64 ((IntKind.wrap IntKind.u64 x) + (4294967296 : Int))) - (IntKind.wrap IntKind.u64 y))) (4294967296 : Int)))))) else (bif (BEq.beq op (3 : Int)) then (bif (decide (And ((3 : Int) ≤ op) (op ≤ (5 : Int)))) then (Tree.letv (okO [(AT.i IntKind.u32)]) (K.alu op x y) fun x0 => (Tree.leaf (SV.v (Value.int IntKind.u32 x0)))) else (Tree.fail)) else (bif (BEq.beq op (4 : Int)) then (bif (decide (And ((3 : Int) ≤ op) (op ≤ (5 : Int)))) then (Tree.letv (okO [(AT.i IntKind.u32)]) (K.alu op x y) fun x0 => (Tree.leaf (SV.v (Value.int IntKind.u32 x0)))) else (Tree.fail)) else (bif (BEq.beq op (5 : Int)) then (bif (decide (And ((3 : Int) ≤ op) (op ≤ (5 : Int)))) then (Tree.letv (okO [(AT.i IntKind.u32)]) (K.alu op x y) fun x0 => (Tree.leaf (SV.v (Value.int IntKind.u32 x0)))) else (Tree.fail)) else (bif (BEq.beq op (6 : Int)) then (Tree.letv (okO [(AT.i IntKind.i64)]) (K.sgn x) fun x0 => (Tree.letv (okO [(AT.i IntKind.i64)]) (K.sgn y) fun x1 => (bif (decide (x0 < x1)) then (Tree.leaf (SV.v
 (Value.int IntKind.u32 (1 : Int)))) else (Tree.leaf (SV.v (Value.int IntKind.u32 (0 : Int))))))) else (bif (BEq.beq op (7 : Int)) then (bif (decide ((IntKind.wrap IntKind.i64 (Int.tmod y (32 : Int))) ≤ (63 : Int))) then (Tree.letv (okO [(AT.i IntKind.u64)]) (K.pow (IntKind.wrap IntKind.i64 (Int.tmod y (32 : Int)))) fun x0 => (Tree.leaf (SV.v (Value.int IntKind.u32 (IntKind.wrap IntKind.u32 (Int.tmod (IntKind.wrap IntKind.u64 ((IntKind.wrap IntKind.u64 x) * x0)) (4294967296 : Int))))))) else (Tree.fail)) else (bif (BEq.beq op (8 : Int)) then (bif (decide ((IntKind.wrap IntKind.i64 (Int.tmod y (32 : Int))) ≤ (63 : Int))) then (Tree.letv (okO [(AT.i IntKind.u64)]) (K.pow (IntKind.wrap IntKind.i64 (Int.tmod y (32 : Int)))) fun x0 => (bif (bne x0 (0 : Int)) then (Tree.leaf (SV.v (Value.int IntKind.u32 (IntKind.wrap IntKind.u32 (IntKind.wrap IntKind.u64 (Int.tdiv (IntKind.wrap IntKind.u64 x) x0)))))) else (Tree.fail))) else (Tree.fail)) else (Tree.leaf (SV.v (Value.int IntKind.u32 (0 : Int))))))))))) := by kernel_rfl
section
attribute [local irreducible] evF evFL evFLs evFP
theorem a_ref08_Do (op : Int) (x : Int) (y : Int) (ok_op : okI .i64 op) (ok_x : okI .u32 x) (ok_y : okI .u32 y) : (evF E_ref08_Do 60 131 (encArgs [.i .i64, .i .u32, .i .u32] (op, x, y, ()))).ends fun out_ => decO [.i .u32] out_ = some (K.alu op x y) := by
  rw [t_ref08_Do, Tree.ends_holds]
  obtain ⟨x0, x1⟩ := okI_u32 ok_x
  obtain ⟨y0, y1⟩ := okI_u32 ok_y
  have p0 := K.pow_pos (y % 32)
  have p1 := K.pow_le (n := y % 32) (by omega)
  have d0 : Int.tmod y 32 = y % 32 := Int.tmod_eq_emod_of_nonneg y0
  have d1 : IntKind.i64.wrap (y % 32) = y % 32 := wrapI64 (by omega) (by omega)
  have q1 : x / K.pow (y % 32) ≤ x := Int.ediv_le_self _ x0
  have q0 : 0 ≤ x / K.pow (y % 32) := Int.ediv_nonneg x0 (by omega)
  have e1 : IntKind.u32.wrap (Int.tmod (IntKind.u64.wrap (IntKind.u64.wrap x + IntKind.u64.wrap y)) 4294967296) = (x + y) % 4294967296 := by
    rw [wrap64, wrap64, wrap64, wrap32, Int.tmod_eq_emod_of_nonneg (by omega)]; omega
  have e2 : IntKind.u32.wrap (Int.tmod (IntKind.u64.wrap (IntKind.u64.wrap (IntKind.u64.wrap x + 4294967296) - IntKind.u64.wrap y)) 4294967296) = (x - y) % 4294967296 := by
    rw [wrap64, wrap64, wrap64, wrap64, wrap32, Int.tmod_eq_emod_of_nonneg (by omega)]; omega
  have e7 : IntKind.u32.wrap (Int.tmod (IntKind.u64.wrap (IntKind.u64.wrap x * K.pow (y % 32))) 4294967296) = x * K.pow (y % 32) % 4294967296 := by
    rw [wrap64, wrap64, wrap32, Int.emod_eq_of_lt (a := x) (by omega) (by omega), Int.tmod_eq_emod_of_nonneg (by omega)]; omega
  have e8 : IntKind.u32.wrap (IntKind.u64.wrap (Int.tdiv (IntKind.u64.wrap x) (K.pow (y % 32)))) = x / K.pow (y % 32) := by
    rw [wrap64, wrap64, Int.emod_eq_of_lt (a := x) (by omega) (by omega), Int.tdiv_eq_ediv_of_nonneg x0, wrap32]; omega
  simp only [Tree.holds_loop, Tree.holds_fork, Tree.holds_next, if_true, Tree.holds_cond, Tree.holds_letv, Tree.holds_leaf, Tree.holds_fail, decO, decA, decTup, decMach, decCore, decTrap, decInstr, decPart, decGuest, decConf, decEvent, decVcpu, decStep, bytesS, boolS, eventsS, intsS, guestsS, vcpusS, rowS, castL, Option.bind_some, Option.map_some, Option.some.injEq, Nat.beq_refl, beq_self_eq_true, Bool.and_self, cond_true, cond_false, eq_self, beq_iff_eq, beq_eq_false_iff_ne, bne_iff_ne, bne_eq_false_iff_eq, ne_eq, decide_eq_true_eq, decide_eq_false_iff_not, ble_true, ble_false, inRange_iff, inRange_false, d0, d1, e1, e2, e7, e8]
  clear e1 e2 e7 e8
  unfold K.alu
  repeat' (first | refine drop_ok ?_ | intro _ | with_reducible apply And.intro)
  all_goals first | omega | (simp_all; done) | (simp_all; omega) | (subst_vars; simp_all; done) | ((repeat' split) <;> first | omega | rfl | (simp_all; done))
  
theorem c_ref08_Do : SpecOk EB 131 S_ref08_Do := spec_sig ok_ref08_Do (n := 60) fun ⟨op, x, y, ⟨⟩⟩ h hok => a_ref08_Do op x y (ok_int (okSL_head hok)) (ok_int (okSL_head (okSL_tail hok))) (ok_int (okSL_head (okSL_tail (okSL_tail hok))))
end

/-! ref05_Store -/

def S_ref05_Store : Spec := sig [.rd .u8, .i .u32, .i .i64, .i .u32] [.rd .u8, .b] (fun (m, a, n, v, _) => if K.inR m.length a n = true then (K.st m a n v, true) else (m, false)) (pre := fun (m, a, n, v, _) => decide ((n = 1 ∨ n = 4) ∧ m.length ≤ 1099511627776))
noncomputable def E_ref05_Store : Env := EB.adds [(58, S_ref05_There)]

theorem ok_ref05_Store : EnvOk E_ref05_Store := okEB.adds (l := _) ⟨c_ref05_There, trivial⟩
theorem t1_c_ref05_Store (m : List Int) (a v : Int) : evF E_ref05_Store 60 30 [.rd .u8 m, .v (.int .u32 a), .v (.int .i64 1), .v (.int .u32 v)] = 
  bif (decide (And ((0 : Int) ≤ (1 : Int)) (And ((1 : Int) ≤ (1099511627776 : Int)) ((0 : Int) ≤ (Int.ofNat (List.length m)))))) then
    (Tree.letv (okO [AT.b]) (K.inR (Int.ofNat (List.length m)) a (1 : Int)) fun x0 =>
    (bif x0 then
      (bif (Bool.or (Bool.not (Nat.beq (List.length m) 0)) true) then
        (bif (Nat.ble ((0 + (List.length m)) * 1) 140737488355328) then
          (bif (inRange (IntKind.wrap IntKind.i64 ((IntKind.wrap IntKind.i64 a) + (0 : Int))) (List.length m)) then
            (Tree.leaf (SV.tup [(SV.rd ETy.u8 (List.set m (Int.toNat (IntKind.wrap IntKind.i64 ((IntKind.wrap IntKind.i64 a) + (0 : Int)))) (IntKind.wrap IntKind.u8 (Int.tmod v (256 : Int))))), (SV.b true)]))
          else
            (Tree.fail))
        else
          (Tree.fail))
      else
        (Tree.fail))
    else
      (Tree.leaf (SV.tup [(SV.rd ETy.u8 m), (SV.b false)]))))
  else
    (Tree.fail) := by kernel_rfl
theorem t4_c_ref05_Store (m : List Int) (a v : Int) : evF E_ref05_Store 60 30 [.rd .u8 m, .v (.int .u32 a), .v (.int .i64 4), .v (.int .u32 v)] = 
  bif (decide (And ((0 : Int) ≤ (4 : Int)) (And ((4 : Int) ≤ (1099511627776 : Int)) ((0 : Int) ≤ (Int.ofNat (List.length m)))))) then
    (Tree.letv (okO [AT.b]) (K.inR (Int.ofNat (List.length m)) a (4 : Int)) fun x0 =>
    (bif x0 then
      (bif (Bool.or (Bool.not (Nat.beq (List.length m) 0)) true) then
        (bif (Nat.ble ((0 + (List.length m)) * 1) 140737488355328) then
          (bif (inRange (IntKind.wrap IntKind.i64 ((IntKind.wrap IntKind.i64 a) + (0 : Int))) (List.length m)) then
            (bif (inRange (IntKind.wrap IntKind.i64 ((IntKind.wrap IntKind.i64 a) + (1 : Int))) (List.length (List.set m (Int.toNat (IntKind.wrap IntKind.i64 ((IntKind.wrap IntKind.i64 a) + (0 : Int)))) (IntKind.wrap IntKind.u8 (Int.tmod v (256 : Int)))))) then
              (bif (inRange (IntKind.wrap IntKind.i64 ((IntKind.wrap IntKind.i64 a) + (2 : Int))) (List.length (List.set (List.set m (Int.toNat (IntKind.wrap IntKind.i64 ((IntKind.wrap IntKind.i64 a) + (0 : Int)))) (IntKind.wrap IntKind.u8 (Int.tmod v (256 : Int)))) (Int.toNat (IntKind.wrap IntKind.i64 ((IntKind.wrap IntKind.i64 a) + (1 : Int)))) (IntKind.wrap IntKind.u8 (Int.tmod (IntKind.wrap IntKind.u32 (Int.tdiv v (256 : Int))) (256 : Int)))))) then
                (bif (inRange (IntKind.wrap IntKind.i64 ((IntKind.wrap IntKind.i64 a) + (3 : Int))) (List.length (List.set (List.set (List.set m (Int.toNat (IntKind.wrap IntKind.i64 ((IntKind.wrap IntKind.i64 a) + (0 : Int)))) (IntKind.wrap IntKind.u8 (Int.tmod v (256 : Int)))) (Int.toNat (IntKind.wrap IntKind.i64 ((IntKind.wrap IntKind.i64 a) + (1 : Int)))) (IntKind.wrap IntKind.u8 (Int.tmod (IntKind.wrap IntKind.u32 (Int.tdiv v (256 : Int))) (256 : Int)))) (Int.toNat (IntKind.wrap IntKind.i64 ((IntKind.wrap IntKind.i64 a) + (2 : Int)))) (IntKind.wrap IntKind.u8 (Int.tmod (IntKind.wrap IntKind.u32 (Int.tdiv (IntKind.wrap IntKind.u32 (Int.tdiv v (256 : Int))) (256 : Int))) (256 : Int)))))) then
                  (Tree.leaf (SV.tup [(SV.rd ETy.u8 (List.set (List.set (List.set (List.set m (Int.toNat (IntKind.wrap IntKind.i64 ((IntKind.wrap IntKind.i64 a) + (0 : Int)))) (IntKind.wrap IntKind.u8 (Int.tmod v (256 : Int)))) (Int.toNat (IntKind.wrap IntKind.i64 ((IntKind.wrap IntKind.i64 a) + (1 : Int)))) (IntKind.wrap IntKind.u8 (Int.tmod (IntKind.wrap IntKind.u32 (Int.tdiv v (256 : Int))) (256 : Int)))) (Int.toNat (IntKind.wrap IntKind.i64 ((IntKind.wrap IntKind.i64 a) + (2 : Int)))) (IntKind.wrap IntKind.u8 (Int.tmod (IntKind.wrap IntKind.u32 (Int.tdiv (IntKind.wrap IntKind.u32 (Int.tdiv v (256 : Int))) (256 : Int))) (256 : Int)))) (Int.toNat (IntKind.wrap IntKind.i64 ((IntKind.wrap IntKind.i64 a) + (3 : Int)))) (IntKind.wrap IntKind.u8 (Int.tmod (IntKind.wrap IntKind.u32 (Int.tdiv (IntKind.wrap IntKind.u32 (Int.tdiv (IntKind.wrap IntKind.u32 (Int.tdiv v (256 : Int))) (256 : Int))) (256 : Int))) (256 : Int))))), (SV.b true)]))
                else
                  (Tree.fail))
              else
                (Tree.fail))
            else
              (Tree.fail))
          else
            (Tree.fail))
        else
          (Tree.fail))
      else
        (Tree.fail))
    else
      (Tree.leaf (SV.tup [(SV.rd ETy.u8 m), (SV.b false)]))))
  else
    (Tree.fail) := by kernel_rfl
theorem a1_c_ref05_Store (m : List Int) (a v : Int) (hm : m.length ≤ 1099511627776) (ok_m : okBytes m) (ok_a : okI .u32 a) (ok_v : okI .u32 v) : (evF E_ref05_Store 60 30 [.rd .u8 m, .v (.int .u32 a), .v (.int .i64 1), .v (.int .u32 v)]).ends fun out_ => decO [.rd .u8, .b] out_ = some (if K.inR m.length a 1 = true then (K.st m a 1 v, true) else (m, false)) := by
  rw [t1_c_ref05_Store, Tree.ends_holds]
  obtain ⟨a0, a1⟩ := okI_u32 ok_a
  obtain ⟨v0, v1⟩ := okI_u32 ok_v
  have ew : IntKind.i64.wrap a = a := wrapI64 (by omega) (by omega)
  have i0 : IntKind.i64.wrap (a + 0) = a := by rw [wrapI64 (by omega) (by omega)]; omega
  have hr : K.inR m.length a 1 = true ↔ a + 1 ≤ (m.length : Int) := by simp [K.inR]
  have d0 : Int.tmod v 256 = v % 256 := Int.tmod_eq_emod_of_nonneg v0
  have d1 : v % 256 % 256 = v % 256 := by omega
  simp only [Tree.holds_loop, Tree.holds_fork, Tree.holds_next, if_true, Tree.holds_cond, Tree.holds_letv, Tree.holds_leaf, Tree.holds_fail, decO, decA, decTup, decMach, decCore, decTrap, decInstr, decPart, decGuest, decConf, decEvent, decVcpu, decStep, bytesS, boolS, eventsS, intsS, guestsS, vcpusS, rowS, castL, Option.bind_some, Option.map_some, Option.some.injEq, Nat.beq_refl, beq_self_eq_true, Bool.and_self, cond_true, cond_false, eq_self, beq_iff_eq, beq_eq_false_iff_ne, bne_iff_ne, bne_eq_false_iff_eq, ne_eq, decide_eq_true_eq, decide_eq_false_iff_not, ble_true, ble_false, inRange_iff, inRange_false, Int.ofNat_eq_natCast, ew, i0, wrap8, d0, d1]
  repeat' (first | refine drop_ok ?_ | intro _ | with_reducible apply And.intro)
  all_goals first | (rw [if_pos (by assumption)]; rfl) | (rw [if_neg (by simp_all)]; done) | omega | (exfalso; have := hr.1 (by assumption); omega) | (rename_i z; simp at z; done) | trace_state
theorem a4_c_ref05_Store (m : List Int) (a v : Int) (hm : m.length ≤ 1099511627776) (ok_m : okBytes m) (ok_a : okI .u32 a) (ok_v : okI .u32 v) : (evF E_ref05_Store 60 30 [.rd .u8 m, .v (.int .u32 a), .v (.int .i64 4), .v (.int .u32 v)]).ends fun out_ => decO [.rd .u8, .b] out_ = some (if K.inR m.length a 4 = true then (K.st m a 4 v, true) else (m, false)) := by
  rw [t4_c_ref05_Store, Tree.ends_holds]
  obtain ⟨a0, a1⟩ := okI_u32 ok_a
  obtain ⟨v0, v1⟩ := okI_u32 ok_v
  have ew : IntKind.i64.wrap a = a := wrapI64 (by omega) (by omega)
  have i0 : IntKind.i64.wrap (a + 0) = a := by rw [wrapI64 (by omega) (by omega)]; omega
  have i1 : IntKind.i64.wrap (a + 1) = a + 1 := wrapI64 (by omega) (by omega)
  have i2 : IntKind.i64.wrap (a + 2) = a + 2 := wrapI64 (by omega) (by omega)
  have i3 : IntKind.i64.wrap (a + 3) = a + 3 := wrapI64 (by omega) (by omega)
  have n1 : (a + 1).toNat = a.toNat + 1 := by omega
  have n2 : (a + 2).toNat = a.toNat + 2 := by omega
  have n3 : (a + 3).toNat = a.toNat + 3 := by omega
  have hr : K.inR m.length a 4 = true ↔ a + 4 ≤ (m.length : Int) := by simp [K.inR]
  have q1 : IntKind.u32.wrap (Int.tdiv v 256) = v / 256 := by rw [Int.tdiv_eq_ediv_of_nonneg v0, wrap32]; omega
  have q2 : IntKind.u32.wrap (Int.tdiv (v / 256) 256) = v / 65536 := by rw [Int.tdiv_eq_ediv_of_nonneg (by omega), wrap32]; omega
  have q3 : IntKind.u32.wrap (Int.tdiv (v / 65536) 256) = v / 16777216 := by rw [Int.tdiv_eq_ediv_of_nonneg (by omega), wrap32]; omega
  have d0 : Int.tmod v 256 % 256 = v % 256 := by rw [Int.tmod_eq_emod_of_nonneg v0]; omega
  have d1 : Int.tmod (v / 256) 256 % 256 = v / 256 % 256 := by rw [Int.tmod_eq_emod_of_nonneg (by omega)]; omega
  have d2 : Int.tmod (v / 65536) 256 % 256 = v / 65536 % 256 := by rw [Int.tmod_eq_emod_of_nonneg (by omega)]; omega
  have d3 : Int.tmod (v / 16777216) 256 % 256 = v / 16777216 % 256 := by rw [Int.tmod_eq_emod_of_nonneg (by omega)]; omega
  simp only [Tree.holds_loop, Tree.holds_fork, Tree.holds_next, if_true, Tree.holds_cond, Tree.holds_letv, Tree.holds_leaf, Tree.holds_fail, decO, decA, decTup, decMach, decCore, decTrap, decInstr, decPart, decGuest, decConf, decEvent, decVcpu, decStep, bytesS, boolS, eventsS, intsS, guestsS, vcpusS, rowS, castL, Option.bind_some, Option.map_some, Option.some.injEq, Nat.beq_refl, beq_self_eq_true, Bool.and_self, cond_true, cond_false, eq_self, beq_iff_eq, beq_eq_false_iff_ne, bne_iff_ne, bne_eq_false_iff_eq, ne_eq, decide_eq_true_eq, decide_eq_false_iff_not, ble_true, ble_false, inRange_iff, inRange_false, Int.ofNat_eq_natCast, ew, i0, i1, i2, i3, n1, n2, n3, wrap8, q1, q2, q3, d0, d1, d2, d3, List.length_set]
  repeat' (first | refine drop_ok ?_ | intro _ | with_reducible apply And.intro)
  all_goals first | (rw [if_pos (by assumption)]; rfl) | (rw [if_neg (by simp_all)]; done) | omega | (exfalso; have := hr.1 (by assumption); omega) | (rename_i z; simp at z; done) | trace_state
theorem c_ref05_Store : SpecOk EB 30 S_ref05_Store := spec_sig ok_ref05_Store (n := 60) fun ⟨m, a, n, v, ⟨⟩⟩ h hok => by
  have h := of_decide_eq_true h
  have o1 := ok_bytes (okSL_head hok)
  have o2 := ok_int (okSL_head (okSL_tail hok))
  have o3 := ok_int (okSL_head (okSL_tail (okSL_tail (okSL_tail hok))))
  rcases h with ⟨h | h, hm⟩
  · have h : n = 1 := h
    subst h; exact a1_c_ref05_Store m a v hm o1 o2 o3
  · have h : n = 4 := h
    subst h; exact a4_c_ref05_Store m a v hm o1 o2 o3

/-! ref10_Store -/

def S_ref10_Store : Spec := sig [.mach, .i .u32, .i .i64, .i .u32] [.mach, .trap] (fun (m, a, n, v, _) => K.store m a n v) (pre := fun (m, a, n, v, _) => decide ((n = 1 ∨ n = 4) ∧ m.mem.length ≤ 1099511627776))
noncomputable def E_ref10_Store : Env := EB.adds [(134, S_ref10_Cell), (30, S_ref05_Store)]

theorem ok_ref10_Store : EnvOk E_ref10_Store := okEB.adds (l := _) ⟨c_ref10_Cell, c_ref05_Store, trivial⟩
theorem t_ref10_Store (m : PMach) (a : Int) (n : Int) (v : Int) : evF E_ref10_Store 60 132 (encArgs [.mach, .i .u32, .i .i64, .i .u32] (m, a, n, v, ())) = bif (decide (Or (n = (1 : Int)) (n = (4 : Int)))) then (Tree.letv (okO [(AT.i IntKind.u32), AT.trap]) (K.cell m a n) fun x0 => (bif (BEq.beq x0.snd.cause (0 : Int)) then (bif (decide (And (Or (n = (1 : Int)) (n = (4 : Int))) ((List.length m.mem) ≤ 1099511627776))) then (Tree.letv (okO [(AT.rd ETy.u8), AT.b]) (if ((K.inR (Int.ofNat (List.length m.mem)) x0.fst n) = true) then ((K.st m.mem x0.fst n v), true) else (m.mem, false)) fun x1 => (bif x1.snd then (Tree.leaf (SV.tup [(SV.agg [(SV.arr IntKind.u32 16 m.core.regs), (SV.v (Value.int IntKind.u32 m.core.pc)), (SV.arr IntKind.u32 12 m.core.csr), (SV.rd ETy.u8 x1.fst), (SV.v (Value.int IntKind.u64 m.time)), (SV.rd ETy.u8 m.out), (SV.v (Value.bool m.halted))]), (SV.agg [(SV.v (Value.int IntKind.i64 x0.snd.cause)), (SV.v (Value.int IntKind.u32 x0.snd.tval))])])) else (Tree.leaf (SV.tup [(SV.agg [(SV.arr IntKind.u32 16 m.core.regs), (SV.v (Value.int IntKind.u32 m.core.pc)), (SV.arr IntKind.u32 12 m.core.csr), (SV.rd ETy.u8 x1.fst), (SV.v (Value.int IntKind.u64 m.time)), (SV.rd ETy.u8 m.out), (SV.v (Value.bool m.halted))]), (SV.agg [(SV.v (Value.int IntKind.i64 x0.snd.cause)), (SV.v (Value.int IntKind.u32 x0.snd.tval))])])))) else (Tree.fail)) else (Tree.leaf (SV.tup [(SV.agg [(SV.arr IntKind.u32 16 m.core.regs), (SV.v (Value.int IntKind.u32 m.core.pc)), (SV.arr IntKind.u32 12
 m.core.csr), (SV.rd ETy.u8 m.mem), (SV.v (Value.int IntKind.u64 m.time)), (SV.rd ETy.u8 m.out), (SV.v (Value.bool m.halted))]), (SV.agg [(SV.v (Value.int IntKind.i64 x0.snd.cause)), (SV.v (Value.int IntKind.u32 x0.snd.tval))])])))) else (Tree.fail) := by kernel_rfl
section
attribute [local irreducible] evF evFL evFLs evFP
theorem a_ref10_Store (m : PMach) (a : Int) (n : Int) (v : Int) (hpre : (n = 1 ∨ n = 4) ∧ m.mem.length ≤ 1099511627776) (ok_m : okMach m) (ok_a : okI .u32 a) (ok_n : okI .i64 n) (ok_v : okI .u32 v) : (evF E_ref10_Store 60 132 (encArgs [.mach, .i .u32, .i .i64, .i .u32] (m, a, n, v, ()))).ends fun out_ => decO [.mach, .trap] out_ = some (K.store m a n v) := by
  rw [t_ref10_Store, Tree.ends_holds]
  obtain ⟨a0, a1⟩ := okI_u32 ok_a
  have hr := fun h => cell_range ok_m.core (a := a) (n := n) a0 (by omega) h
  simp only [Tree.holds_loop, Tree.holds_fork, Tree.holds_next, if_true, Tree.holds_cond, Tree.holds_letv, Tree.holds_leaf, Tree.holds_fail, decO, decA, decTup, decMach, decCore, decTrap, decInstr, decPart, decGuest, decConf, decEvent, decVcpu, decStep, bytesS, boolS, eventsS, intsS, guestsS, vcpusS, rowS, castL, Option.bind_some, Option.map_some, Option.some.injEq, Nat.beq_refl, beq_self_eq_true, Bool.and_self, cond_true, cond_false, eq_self, beq_iff_eq, beq_eq_false_iff_ne, bne_iff_ne, bne_eq_false_iff_eq, ne_eq, decide_eq_true_eq, decide_eq_false_iff_not, ble_true, ble_false, inRange_iff, inRange_false, Int.ofNat_eq_natCast, K.store]
  by_cases h : (K.cell m a n).2.cause = 0
  · have ht := cell_zero h
    have hi : K.inR m.mem.length (K.cell m a n).1 n = true := by have := hr h; simp only [K.inR, decide_eq_true_eq]; omega
    simp only [h, ht, hi, if_true]
    simp [hpre]
  · simp [h, hpre]
  
theorem c_ref10_Store : SpecOk EB 132 S_ref10_Store := spec_sig ok_ref10_Store (n := 60) fun ⟨m, a, n, v, ⟨⟩⟩ h hok => a_ref10_Store m a n v (of_decide_eq_true h) (ok_mach (okSL_head hok)) (ok_int (okSL_head (okSL_tail hok))) (ok_int (okSL_head (okSL_tail (okSL_tail hok)))) (ok_int (okSL_head (okSL_tail (okSL_tail (okSL_tail hok)))))
end

/-! ref08_Taken -/

def S_ref08_Taken : Spec := sig [.i .i64, .i .u32, .i .u32] [.b] (fun (op, x, y, _) => K.taken op x y)
noncomputable def E_ref08_Taken : Env := EB.adds [(146, S_ref08_signed)]

theorem ok_ref08_Taken : EnvOk E_ref08_Taken := okEB.adds (l := _) ⟨c_ref08_signed, trivial⟩
theorem t_ref08_Taken (op : Int) (x : Int) (y : Int) : evF E_ref08_Taken 60 133 (encArgs [.i .i64, .i .u32, .i .u32] (op, x, y, ())) = bif (BEq.beq op (15 : Int)) then (bif (BEq.beq x y) then (Tree.leaf (SV.b true)) else (bif (BEq.beq op (16 : Int)) then (bif (bne x y) then (Tree.leaf (SV.b true)) else (bif (BEq.beq op (17 : Int)) then (Tree.letv (okO [(AT.i IntKind.i64)]) (K.sgn x) fun x0 => (Tree.letv (okO [(AT.i IntKind.i64)]) (K.sgn y) fun x1 => (bif (decide (x0 < x1)) then (Tree.leaf (SV.b true)) else (Tree.leaf (SV.b false))))) else (Tree.leaf (SV.b false)))) else (bif (BEq.beq op (17 : Int)) then (Tree.letv (okO [(AT.i IntKind.i64)]) (K.sgn x) fun x0 => (Tree.letv (okO [(AT.i IntKind.i64)]) (K.sgn y) fun x1 => (bif (decide (x0 < x1)) then (Tree.leaf (SV.b true)) else (Tree.leaf (SV.b false))))) else (Tree.leaf (SV.b false))))) else (bif (BEq.beq op (16 : Int)) then (bif (bne x y) then (Tree.leaf (SV.b true)) else (bif (BEq.beq op (17 : Int)) then (Tree.letv (okO [(AT.i IntKind.i64)]) (K.sgn x) fun x0 => (Tree.letv (okO [(AT.i IntKind.i64)]) (K.sgn y) fun x1 => (bif (decide (x0 < x1)) then (Tree.leaf (SV.b true)) else (Tree.leaf (SV.b false))))) else (Tree.leaf (SV.b false)))) else (bif (BEq.beq op (17 : Int)) then (Tree.letv (okO [(AT.i IntKind.i64)]) (K.sgn x) fun x0 => (Tree.letv (okO [(AT.i IntKind.i64)]) (K.sgn y) fun x1 => (bif (decide (x0 < x1)) then (Tree.leaf (SV.b true)) else (Tree.leaf (SV.b false))))) else (Tree.leaf (SV.b false)))) := by kernel_rfl
section
attribute [local irreducible] evF evFL evFLs evFP
theorem a_ref08_Taken (op : Int) (x : Int) (y : Int) (ok_op : okI .i64 op) (ok_x : okI .u32 x) (ok_y : okI .u32 y) : (evF E_ref08_Taken 60 133 (encArgs [.i .i64, .i .u32, .i .u32] (op, x, y, ()))).ends fun out_ => decO [.b] out_ = some (K.taken op x y) := by
  rw [t_ref08_Taken, Tree.ends_holds]
  simp only [Tree.holds_loop, Tree.holds_fork, Tree.holds_next, if_true, Tree.holds_cond, Tree.holds_letv, Tree.holds_leaf, Tree.holds_fail, decO, decA, decTup, decMach, decCore, decTrap, decInstr, decPart, decGuest, decConf, decEvent, decVcpu, decStep, bytesS, boolS, eventsS, intsS, guestsS, vcpusS, rowS, castL, Option.bind_some, Option.map_some, Option.some.injEq, Nat.beq_refl, beq_self_eq_true, Bool.and_self, cond_true, cond_false, eq_self, beq_iff_eq, beq_eq_false_iff_ne, bne_iff_ne, bne_eq_false_iff_eq, ne_eq, decide_eq_true_eq, decide_eq_false_iff_not, ble_true, ble_false, inRange_iff, inRange_false, K.taken]
  repeat' (first | refine drop_ok ?_ | intro _ | with_reducible apply And.intro)
  all_goals first | omega | (simp_all; done) | ((repeat' split) <;> first | omega | rfl | (simp_all; done) | (simp_all; omega))
  
theorem c_ref08_Taken : SpecOk EB 133 S_ref08_Taken := spec_sig ok_ref08_Taken (n := 60) fun ⟨op, x, y, ⟨⟩⟩ h hok => a_ref08_Taken op x y (ok_int (okSL_head hok)) (ok_int (okSL_head (okSL_tail hok))) (ok_int (okSL_head (okSL_tail (okSL_tail hok))))
end

/-! ref11_Do -/

def S_ref11_Do : Spec := sig [.mach, .instr] [.mach, .trap] (fun (m, i, _) => K.exec m i) (pre := fun (m, i, _) => decide (1 ≤ i.op ∧ i.op ≤ 20 ∧ m.mem.length ≤ 1099511627776))
noncomputable def E_ref11_Do : Env := EB.adds [(124, S_ref07_Get), (129, S_ref11_times), (130, S_ref11_put), (131, S_ref08_Do), (102, S_ref10_Load), (132, S_ref10_Store), (133, S_ref08_Taken)]

theorem ok_ref11_Do : EnvOk E_ref11_Do := okEB.adds (l := _) ⟨c_ref07_Get, c_ref11_times, c_ref11_put, c_ref08_Do, c_ref10_Load, c_ref10_Store, c_ref08_Taken, trivial⟩
theorem t_ref11_Do (m : PMach) (i : PInstr) : evF E_ref11_Do 60 93 (encArgs [.mach, .instr] (m, i, ())) = Tree.letv (okO [(AT.i IntKind.u32)]) (K.get m.core.regs i.ra) fun x0 => (Tree.letv (okO [(AT.i IntKind.u32)]) (K.get m.core.regs i.rb) fun x1 => (Tree.letv (okO [(AT.i IntKind.u32)]) (K.get m.core.regs i.rd) fun x2 => (Tree.letv (okO [(AT.i IntKind.u32)]) ((i.imm * (1 : Int)) % (4294967296 : Int)) fun x3 => (bif (BEq.beq i.op (1 : Int)) then (Tree.letv (okO [(AT.i IntKind.u32)]) (K.alu i.op x0 x1) fun x4 => (Tree.letv (okO [AT.mach]) (K.wput m i.rd x4 ((m.core.pc + (4 : Int)) % (4294967296 : Int))) fun x5 => (Tree.leaf (SV.tup [(SV.agg [(SV.arr IntKind.u32 16 x5.core.regs), (SV.v (Value.int IntKind.u32 x5.core.pc)), (SV.arr IntKind.u32 12 x5.core.csr), (SV.rd ETy.u8 x5.mem), (SV.v (Value.int IntKind.u64 x5.time)), (SV.rd ETy.u8 x5.out), (SV.v (Value.bool x5.halted))]), (SV.agg [(SV.v (Value.int IntKind.i64 (0 : Int))), (SV.v (Value.int IntKind.u32 (0 : Int)))])])))) else (bif (BEq.beq i.op (2 : Int)) then (Tree.letv (okO [(AT.i IntKind.u32)]) (K.alu i.op x0 x1) fun x4 => (Tree.letv (okO [AT.mach]) (K.wput m i.rd x4 ((m.core.pc + (4 : Int)) % (4294967296 : Int))) fun x5 => (Tree.leaf (SV.tup [(SV.agg [(SV.arr IntKind.u32 16 x5.core.regs), (SV.v (Value.int IntKind.u32 x5.core.pc)), (SV.arr IntKind.u32 12 x5.core.csr), (SV.rd ETy.u8 x5.mem), (SV.v (Value.int IntKind.u64 x5.time)), (SV.rd ETy.u8 x5.out), (SV.v (Value.bool x5.halted))]), (SV.agg [(SV.v (Value.int IntKind.i64 (0
 : Int))), (SV.v (Value.int IntKind.u32 (0 : Int)))])])))) else (bif (BEq.beq i.op (3 : Int)) then (Tree.letv (okO [(AT.i IntKind.u32)]) (K.alu i.op x0 x1) fun x4 => (Tree.letv (okO [AT.mach]) (K.wput m i.rd x4 ((m.core.pc + (4 : Int)) % (4294967296 : Int))) fun x5 => (Tree.leaf (SV.tup [(SV.agg [(SV.arr IntKind.u32 16 x5.core.regs), (SV.v (Value.int IntKind.u32 x5.core.pc)), (SV.arr IntKind.u32 12 x5.core.csr), (SV.rd ETy.u8 x5.mem), (SV.v (Value.int IntKind.u64 x5.time)), (SV.rd ETy.u8 x5.out), (SV.v (Value.bool x5.halted))]), (SV.agg [(SV.v (Value.int IntKind.i64 (0 : Int))), (SV.v (Value.int IntKind.u32 (0 : Int)))])])))) else (bif (BEq.beq i.op (4 : Int)) then (Tree.letv (okO [(AT.i IntKind.u32)]) (K.alu i.op x0 x1) fun x4 => (Tree.letv (okO [AT.mach]) (K.wput m i.rd x4 ((m.core.pc + (4 : Int)) % (4294967296 : Int))) fun x5 => (Tree.leaf (SV.tup [(SV.agg [(SV.arr IntKind.u32 16 x5.core.regs), (SV.v (Value.int IntKind.u32 x5.core.pc)), (SV.arr IntKind.u32 12 x5.core.csr), (SV.rd ETy.u8 x5.mem), (SV.v (Value.int IntKind.u64 x5.time)), (SV.rd ETy.u8 x5.out), (SV.v (Value.bool x5.halted))]), (SV.agg [(SV.v (Value.int IntKind.i64 (0 : Int))), (SV.v (Value.int IntKind.u32 (0 : Int)))])])))) else (bif (BEq.beq i.op (5 : Int)) then (Tree.letv (okO [(AT.i IntKind.u32)]) (K.alu i.op x0 x1) fun x4 => (Tree.letv (okO [AT.mach]) (K.wput m i.rd x4 ((m.core.pc + (4 : Int)) % (4294967296 : Int))) fun x5 => (Tree.leaf (SV.tup [(SV.agg [(SV.arr IntKind.u32 16 x5.core.regs), (SV.v (Value.int
 IntKind.u32 x5.core.pc)), (SV.arr IntKind.u32 12 x5.core.csr), (SV.rd ETy.u8 x5.mem), (SV.v (Value.int IntKind.u64 x5.time)), (SV.rd ETy.u8 x5.out), (SV.v (Value.bool x5.halted))]), (SV.agg [(SV.v (Value.int IntKind.i64 (0 : Int))), (SV.v (Value.int IntKind.u32 (0 : Int)))])])))) else (bif (BEq.beq i.op (6 : Int)) then (Tree.letv (okO [(AT.i IntKind.u32)]) (K.alu i.op x0 x1) fun x4 => (Tree.letv (okO [AT.mach]) (K.wput m i.rd x4 ((m.core.pc + (4 : Int)) % (4294967296 : Int))) fun x5 => (Tree.leaf (SV.tup [(SV.agg [(SV.arr IntKind.u32 16 x5.core.regs), (SV.v (Value.int IntKind.u32 x5.core.pc)), (SV.arr IntKind.u32 12 x5.core.csr), (SV.rd ETy.u8 x5.mem), (SV.v (Value.int IntKind.u64 x5.time)), (SV.rd ETy.u8 x5.out), (SV.v (Value.bool x5.halted))]), (SV.agg [(SV.v (Value.int IntKind.i64 (0 : Int))), (SV.v (Value.int IntKind.u32 (0 : Int)))])])))) else (bif (BEq.beq i.op (7 : Int)) then (Tree.letv (okO [(AT.i IntKind.u32)]) (K.alu i.op x0 x1) fun x4 => (Tree.letv (okO [AT.mach]) (K.wput m i.rd x4 ((m.core.pc + (4 : Int)) % (4294967296 : Int))) fun x5 => (Tree.leaf (SV.tup [(SV.agg [(SV.arr IntKind.u32 16 x5.core.regs), (SV.v (Value.int IntKind.u32 x5.core.pc)), (SV.arr IntKind.u32 12 x5.core.csr), (SV.rd ETy.u8 x5.mem), (SV.v (Value.int IntKind.u64 x5.time)), (SV.rd ETy.u8 x5.out), (SV.v (Value.bool x5.halted))]), (SV.agg [(SV.v (Value.int IntKind.i64 (0 : Int))), (SV.v (Value.int IntKind.u32 (0 : Int)))])])))) else (bif (BEq.beq i.op (8 : Int)) then (Tree.letv (okO [(AT.i
 IntKind.u32)]) (K.alu i.op x0 x1) fun x4 => (Tree.letv (okO [AT.mach]) (K.wput m i.rd x4 ((m.core.pc + (4 : Int)) % (4294967296 : Int))) fun x5 => (Tree.leaf (SV.tup [(SV.agg [(SV.arr IntKind.u32 16 x5.core.regs), (SV.v (Value.int IntKind.u32 x5.core.pc)), (SV.arr IntKind.u32 12 x5.core.csr), (SV.rd ETy.u8 x5.mem), (SV.v (Value.int IntKind.u64 x5.time)), (SV.rd ETy.u8 x5.out), (SV.v (Value.bool x5.halted))]), (SV.agg [(SV.v (Value.int IntKind.i64 (0 : Int))), (SV.v (Value.int IntKind.u32 (0 : Int)))])])))) else (bif (BEq.beq i.op (9 : Int)) then (Tree.letv (okO [AT.mach]) (K.wput m i.rd (IntKind.wrap IntKind.u32 (x0 + x3)) ((m.core.pc + (4 : Int)) % (4294967296 : Int))) fun x4 => (Tree.leaf (SV.tup [(SV.agg [(SV.arr IntKind.u32 16 x4.core.regs), (SV.v (Value.int IntKind.u32 x4.core.pc)), (SV.arr IntKind.u32 12 x4.core.csr), (SV.rd ETy.u8 x4.mem), (SV.v (Value.int IntKind.u64 x4.time)), (SV.rd ETy.u8 x4.out), (SV.v (Value.bool x4.halted))]), (SV.agg [(SV.v (Value.int IntKind.i64 (0 : Int))), (SV.v (Value.int IntKind.u32 (0 : Int)))])]))) else (bif (BEq.beq i.op (10 : Int)) then (Tree.letv (okO [(AT.i IntKind.u32)]) ((i.imm * (16384 : Int)) % (4294967296 : Int)) fun x4 => (Tree.letv (okO [AT.mach]) (K.wput m i.rd x4 ((m.core.pc + (4 : Int)) % (4294967296 : Int))) fun x5 => (Tree.leaf (SV.tup [(SV.agg [(SV.arr IntKind.u32 16 x5.core.regs), (SV.v (Value.int IntKind.u32 x5.core.pc)), (SV.arr IntKind.u32 12 x5.core.csr), (SV.rd ETy.u8 x5.mem), (SV.v (Value.int IntKind.u64 x5.time)),
 (SV.rd ETy.u8 x5.out), (SV.v (Value.bool x5.halted))]), (SV.agg [(SV.v (Value.int IntKind.i64 (0 : Int))), (SV.v (Value.int IntKind.u32 (0 : Int)))])])))) else (bif (BEq.beq i.op (11 : Int)) then (bif (BEq.beq i.op (13 : Int)) then (Tree.letv (okO [(AT.i IntKind.u32), AT.trap]) (K.load m (IntKind.wrap IntKind.u32 (x0 + x3)) (1 : Int)) fun x4 => (bif (bne x4.snd.cause (0 : Int)) then (Tree.leaf (SV.tup [(SV.agg [(SV.arr IntKind.u32 16 m.core.regs), (SV.v (Value.int IntKind.u32 m.core.pc)), (SV.arr IntKind.u32 12 m.core.csr), (SV.rd ETy.u8 m.mem), (SV.v (Value.int IntKind.u64 m.time)), (SV.rd ETy.u8 m.out), (SV.v (Value.bool m.halted))]), (SV.agg [(SV.v (Value.int IntKind.i64 x4.snd.cause)), (SV.v (Value.int IntKind.u32 x4.snd.tval))])])) else (Tree.letv (okO [AT.mach]) (K.wput m i.rd x4.fst ((m.core.pc + (4 : Int)) % (4294967296 : Int))) fun x5 => (Tree.leaf (SV.tup [(SV.agg [(SV.arr IntKind.u32 16 x5.core.regs), (SV.v (Value.int IntKind.u32 x5.core.pc)), (SV.arr IntKind.u32 12 x5.core.csr), (SV.rd ETy.u8 x5.mem), (SV.v (Value.int IntKind.u64 x5.time)), (SV.rd ETy.u8 x5.out), (SV.v (Value.bool x5.halted))]), (SV.agg [(SV.v (Value.int IntKind.i64 (0 : Int))), (SV.v (Value.int IntKind.u32 (0 : Int)))])]))))) else (Tree.letv (okO [(AT.i IntKind.u32), AT.trap]) (K.load m (IntKind.wrap IntKind.u32 (x0 + x3)) (4 : Int)) fun x4 => (bif (bne x4.snd.cause (0 : Int)) then (Tree.leaf (SV.tup [(SV.agg [(SV.arr IntKind.u32 16 m.core.regs), (SV.v (Value.int IntKind.u32 m.core.pc)), (SV.arr
 IntKind.u32 12 m.core.csr), (SV.rd ETy.u8 m.mem), (SV.v (Value.int IntKind.u64 m.time)), (SV.rd ETy.u8 m.out), (SV.v (Value.bool m.halted))]), (SV.agg [(SV.v (Value.int IntKind.i64 x4.snd.cause)), (SV.v (Value.int IntKind.u32 x4.snd.tval))])])) else (Tree.letv (okO [AT.mach]) (K.wput m i.rd x4.fst ((m.core.pc + (4 : Int)) % (4294967296 : Int))) fun x5 => (Tree.leaf (SV.tup [(SV.agg [(SV.arr IntKind.u32 16 x5.core.regs), (SV.v (Value.int IntKind.u32 x5.core.pc)), (SV.arr IntKind.u32 12 x5.core.csr), (SV.rd ETy.u8 x5.mem), (SV.v (Value.int IntKind.u64 x5.time)), (SV.rd ETy.u8 x5.out), (SV.v (Value.bool x5.halted))]), (SV.agg [(SV.v (Value.int IntKind.i64 (0 : Int))), (SV.v (Value.int IntKind.u32 (0 : Int)))])])))))) else (bif (BEq.beq i.op (13 : Int)) then (bif (BEq.beq i.op (13 : Int)) then (Tree.letv (okO [(AT.i IntKind.u32), AT.trap]) (K.load m (IntKind.wrap IntKind.u32 (x0 + x3)) (1 : Int)) fun x4 => (bif (bne x4.snd.cause (0 : Int)) then (Tree.leaf (SV.tup [(SV.agg [(SV.arr IntKind.u32 16 m.core.regs), (SV.v (Value.int IntKind.u32 m.core.pc)), (SV.arr IntKind.u32 12 m.core.csr), (SV.rd ETy.u8 m.mem), (SV.v (Value.int IntKind.u64 m.time)), (SV.rd ETy.u8 m.out), (SV.v (Value.bool m.halted))]), (SV.agg [(SV.v (Value.int IntKind.i64 x4.snd.cause)), (SV.v (Value.int IntKind.u32 x4.snd.tval))])])) else (Tree.letv (okO [AT.mach]) (K.wput m i.rd x4.fst ((m.core.pc + (4 : Int)) % (4294967296 : Int))) fun x5 => (Tree.leaf (SV.tup [(SV.agg [(SV.arr IntKind.u32 16 x5.core.regs), (SV.v
 (Value.int IntKind.u32 x5.core.pc)), (SV.arr IntKind.u32 12 x5.core.csr), (SV.rd ETy.u8 x5.mem), (SV.v (Value.int IntKind.u64 x5.time)), (SV.rd ETy.u8 x5.out), (SV.v (Value.bool x5.halted))]), (SV.agg [(SV.v (Value.int IntKind.i64 (0 : Int))), (SV.v (Value.int IntKind.u32 (0 : Int)))])]))))) else (Tree.letv (okO [(AT.i IntKind.u32), AT.trap]) (K.load m (IntKind.wrap IntKind.u32 (x0 + x3)) (4 : Int)) fun x4 => (bif (bne x4.snd.cause (0 : Int)) then (Tree.leaf (SV.tup [(SV.agg [(SV.arr IntKind.u32 16 m.core.regs), (SV.v (Value.int IntKind.u32 m.core.pc)), (SV.arr IntKind.u32 12 m.core.csr), (SV.rd ETy.u8 m.mem), (SV.v (Value.int IntKind.u64 m.time)), (SV.rd ETy.u8 m.out), (SV.v (Value.bool m.halted))]), (SV.agg [(SV.v (Value.int IntKind.i64 x4.snd.cause)), (SV.v (Value.int IntKind.u32 x4.snd.tval))])])) else (Tree.letv (okO [AT.mach]) (K.wput m i.rd x4.fst ((m.core.pc + (4 : Int)) % (4294967296 : Int))) fun x5 => (Tree.leaf (SV.tup [(SV.agg [(SV.arr IntKind.u32 16 x5.core.regs), (SV.v (Value.int IntKind.u32 x5.core.pc)), (SV.arr IntKind.u32 12 x5.core.csr), (SV.rd ETy.u8 x5.mem), (SV.v (Value.int IntKind.u64 x5.time)), (SV.rd ETy.u8 x5.out), (SV.v (Value.bool x5.halted))]), (SV.agg [(SV.v (Value.int IntKind.i64 (0 : Int))), (SV.v (Value.int IntKind.u32 (0 : Int)))])])))))) else (bif (BEq.beq i.op (12 : Int)) then (bif (BEq.beq i.op (14 : Int)) then (bif (decide (And (Or ((1 : Int) = (1 : Int)) ((1 : Int) = (4 : Int))) ((List.length m.mem) ≤ 1099511627776))) then (Tree.letv (okO
 [AT.mach, AT.trap]) (K.store m (IntKind.wrap IntKind.u32 (x0 + x3)) (1 : Int) x2) fun x4 => (bif (bne x4.snd.cause (0 : Int)) then (Tree.leaf (SV.tup [(SV.agg [(SV.arr IntKind.u32 16 m.core.regs), (SV.v (Value.int IntKind.u32 m.core.pc)), (SV.arr IntKind.u32 12 m.core.csr), (SV.rd ETy.u8 m.mem), (SV.v (Value.int IntKind.u64 m.time)), (SV.rd ETy.u8 m.out), (SV.v (Value.bool m.halted))]), (SV.agg [(SV.v (Value.int IntKind.i64 x4.snd.cause)), (SV.v (Value.int IntKind.u32 x4.snd.tval))])])) else (Tree.letv (okO [AT.mach]) (K.wput x4.fst (0 : Int) (0 : Int) ((x4.fst.core.pc + (4 : Int)) % (4294967296 : Int))) fun x5 => (Tree.leaf (SV.tup [(SV.agg [(SV.arr IntKind.u32 16 x5.core.regs), (SV.v (Value.int IntKind.u32 x5.core.pc)), (SV.arr IntKind.u32 12 x5.core.csr), (SV.rd ETy.u8 x5.mem), (SV.v (Value.int IntKind.u64 x5.time)), (SV.rd ETy.u8 x5.out), (SV.v (Value.bool x5.halted))]), (SV.agg [(SV.v (Value.int IntKind.i64 (0 : Int))), (SV.v (Value.int IntKind.u32 (0 : Int)))])]))))) else (Tree.fail)) else (bif (decide (And (Or ((4 : Int) = (1 : Int)) ((4 : Int) = (4 : Int))) ((List.length m.mem) ≤ 1099511627776))) then (Tree.letv (okO [AT.mach, AT.trap]) (K.store m (IntKind.wrap IntKind.u32 (x0 + x3)) (4 : Int) x2) fun x4 => (bif (bne x4.snd.cause (0 : Int)) then (Tree.leaf (SV.tup [(SV.agg [(SV.arr IntKind.u32 16 m.core.regs), (SV.v (Value.int IntKind.u32 m.core.pc)), (SV.arr IntKind.u32 12 m.core.csr), (SV.rd ETy.u8 m.mem), (SV.v (Value.int IntKind.u64 m.time)), (SV.rd ETy.u8 m.out),
 (SV.v (Value.bool m.halted))]), (SV.agg [(SV.v (Value.int IntKind.i64 x4.snd.cause)), (SV.v (Value.int IntKind.u32 x4.snd.tval))])])) else (Tree.letv (okO [AT.mach]) (K.wput x4.fst (0 : Int) (0 : Int) ((x4.fst.core.pc + (4 : Int)) % (4294967296 : Int))) fun x5 => (Tree.leaf (SV.tup [(SV.agg [(SV.arr IntKind.u32 16 x5.core.regs), (SV.v (Value.int IntKind.u32 x5.core.pc)), (SV.arr IntKind.u32 12 x5.core.csr), (SV.rd ETy.u8 x5.mem), (SV.v (Value.int IntKind.u64 x5.time)), (SV.rd ETy.u8 x5.out), (SV.v (Value.bool x5.halted))]), (SV.agg [(SV.v (Value.int IntKind.i64 (0 : Int))), (SV.v (Value.int IntKind.u32 (0 : Int)))])]))))) else (Tree.fail))) else (bif (BEq.beq i.op (14 : Int)) then (bif (BEq.beq i.op (14 : Int)) then (bif (decide (And (Or ((1 : Int) = (1 : Int)) ((1 : Int) = (4 : Int))) ((List.length m.mem) ≤ 1099511627776))) then (Tree.letv (okO [AT.mach, AT.trap]) (K.store m (IntKind.wrap IntKind.u32 (x0 + x3)) (1 : Int) x2) fun x4 => (bif (bne x4.snd.cause (0 : Int)) then (Tree.leaf (SV.tup [(SV.agg [(SV.arr IntKind.u32 16 m.core.regs), (SV.v (Value.int IntKind.u32 m.core.pc)), (SV.arr IntKind.u32 12 m.core.csr), (SV.rd ETy.u8 m.mem), (SV.v (Value.int IntKind.u64 m.time)), (SV.rd ETy.u8 m.out), (SV.v (Value.bool m.halted))]), (SV.agg [(SV.v (Value.int IntKind.i64 x4.snd.cause)), (SV.v (Value.int IntKind.u32 x4.snd.tval))])])) else (Tree.letv (okO [AT.mach]) (K.wput x4.fst (0 : Int) (0 : Int) ((x4.fst.core.pc + (4 : Int)) % (4294967296 : Int))) fun x5 => (Tree.leaf (SV.tup
 [(SV.agg [(SV.arr IntKind.u32 16 x5.core.regs), (SV.v (Value.int IntKind.u32 x5.core.pc)), (SV.arr IntKind.u32 12 x5.core.csr), (SV.rd ETy.u8 x5.mem), (SV.v (Value.int IntKind.u64 x5.time)), (SV.rd ETy.u8 x5.out), (SV.v (Value.bool x5.halted))]), (SV.agg [(SV.v (Value.int IntKind.i64 (0 : Int))), (SV.v (Value.int IntKind.u32 (0 : Int)))])]))))) else (Tree.fail)) else (bif (decide (And (Or ((4 : Int) = (1 : Int)) ((4 : Int) = (4 : Int))) ((List.length m.mem) ≤ 1099511627776))) then (Tree.letv (okO [AT.mach, AT.trap]) (K.store m (IntKind.wrap IntKind.u32 (x0 + x3)) (4 : Int) x2) fun x4 => (bif (bne x4.snd.cause (0 : Int)) then (Tree.leaf (SV.tup [(SV.agg [(SV.arr IntKind.u32 16 m.core.regs), (SV.v (Value.int IntKind.u32 m.core.pc)), (SV.arr IntKind.u32 12 m.core.csr), (SV.rd ETy.u8 m.mem), (SV.v (Value.int IntKind.u64 m.time)), (SV.rd ETy.u8 m.out), (SV.v (Value.bool m.halted))]), (SV.agg [(SV.v (Value.int IntKind.i64 x4.snd.cause)), (SV.v (Value.int IntKind.u32 x4.snd.tval))])])) else (Tree.letv (okO [AT.mach]) (K.wput x4.fst (0 : Int) (0 : Int) ((x4.fst.core.pc + (4 : Int)) % (4294967296 : Int))) fun x5 => (Tree.leaf (SV.tup [(SV.agg [(SV.arr IntKind.u32 16 x5.core.regs), (SV.v (Value.int IntKind.u32 x5.core.pc)), (SV.arr IntKind.u32 12 x5.core.csr), (SV.rd ETy.u8 x5.mem), (SV.v (Value.int IntKind.u64 x5.time)), (SV.rd ETy.u8 x5.out), (SV.v (Value.bool x5.halted))]), (SV.agg [(SV.v (Value.int IntKind.i64 (0 : Int))), (SV.v (Value.int IntKind.u32 (0 : Int)))])]))))) else
 (Tree.fail))) else (bif (BEq.beq i.op (15 : Int)) then (Tree.letv (okO [AT.b]) (K.taken i.op x2 x0) fun x4 => (bif x4 then (Tree.letv (okO [(AT.i IntKind.u32)]) ((i.imm * (4 : Int)) % (4294967296 : Int)) fun x5 => (Tree.letv (okO [AT.mach]) (K.wput m (0 : Int) (0 : Int) ((m.core.pc + x5) % (4294967296 : Int))) fun x6 => (Tree.leaf (SV.tup [(SV.agg [(SV.arr IntKind.u32 16 x6.core.regs), (SV.v (Value.int IntKind.u32 x6.core.pc)), (SV.arr IntKind.u32 12 x6.core.csr), (SV.rd ETy.u8 x6.mem), (SV.v (Value.int IntKind.u64 x6.time)), (SV.rd ETy.u8 x6.out), (SV.v (Value.bool x6.halted))]), (SV.agg [(SV.v (Value.int IntKind.i64 (0 : Int))), (SV.v (Value.int IntKind.u32 (0 : Int)))])])))) else (Tree.letv (okO [AT.mach]) (K.wput m (0 : Int) (0 : Int) ((m.core.pc + (4 : Int)) % (4294967296 : Int))) fun x5 => (Tree.leaf (SV.tup [(SV.agg [(SV.arr IntKind.u32 16 x5.core.regs), (SV.v (Value.int IntKind.u32 x5.core.pc)), (SV.arr IntKind.u32 12 x5.core.csr), (SV.rd ETy.u8 x5.mem), (SV.v (Value.int IntKind.u64 x5.time)), (SV.rd ETy.u8 x5.out), (SV.v (Value.bool x5.halted))]), (SV.agg [(SV.v (Value.int IntKind.i64 (0 : Int))), (SV.v (Value.int IntKind.u32 (0 : Int)))])]))))) else (bif (BEq.beq i.op (16 : Int)) then (Tree.letv (okO [AT.b]) (K.taken i.op x2 x0) fun x4 => (bif x4 then (Tree.letv (okO [(AT.i IntKind.u32)]) ((i.imm * (4 : Int)) % (4294967296 : Int)) fun x5 => (Tree.letv (okO [AT.mach]) (K.wput m (0 : Int) (0 : Int) ((m.core.pc + x5) % (4294967296 : Int))) fun x6 => (Tree.leaf (SV.tup
 [(SV.agg [(SV.arr IntKind.u32 16 x6.core.regs), (SV.v (Value.int IntKind.u32 x6.core.pc)), (SV.arr IntKind.u32 12 x6.core.csr), (SV.rd ETy.u8 x6.mem), (SV.v (Value.int IntKind.u64 x6.time)), (SV.rd ETy.u8 x6.out), (SV.v (Value.bool x6.halted))]), (SV.agg [(SV.v (Value.int IntKind.i64 (0 : Int))), (SV.v (Value.int IntKind.u32 (0 : Int)))])])))) else (Tree.letv (okO [AT.mach]) (K.wput m (0 : Int) (0 : Int) ((m.core.pc + (4 : Int)) % (4294967296 : Int))) fun x5 => (Tree.leaf (SV.tup [(SV.agg [(SV.arr IntKind.u32 16 x5.core.regs), (SV.v (Value.int IntKind.u32 x5.core.pc)), (SV.arr IntKind.u32 12 x5.core.csr), (SV.rd ETy.u8 x5.mem), (SV.v (Value.int IntKind.u64 x5.time)), (SV.rd ETy.u8 x5.out), (SV.v (Value.bool x5.halted))]), (SV.agg [(SV.v (Value.int IntKind.i64 (0 : Int))), (SV.v (Value.int IntKind.u32 (0 : Int)))])]))))) else (bif (BEq.beq i.op (17 : Int)) then (Tree.letv (okO [AT.b]) (K.taken i.op x2 x0) fun x4 => (bif x4 then (Tree.letv (okO [(AT.i IntKind.u32)]) ((i.imm * (4 : Int)) % (4294967296 : Int)) fun x5 => (Tree.letv (okO [AT.mach]) (K.wput m (0 : Int) (0 : Int) ((m.core.pc + x5) % (4294967296 : Int))) fun x6 => (Tree.leaf (SV.tup [(SV.agg [(SV.arr IntKind.u32 16 x6.core.regs), (SV.v (Value.int IntKind.u32 x6.core.pc)), (SV.arr IntKind.u32 12 x6.core.csr), (SV.rd ETy.u8 x6.mem), (SV.v (Value.int IntKind.u64 x6.time)), (SV.rd ETy.u8 x6.out), (SV.v (Value.bool x6.halted))]), (SV.agg [(SV.v (Value.int IntKind.i64 (0 : Int))), (SV.v (Value.int IntKind.u32 (0 :
 Int)))])])))) else (Tree.letv (okO [AT.mach]) (K.wput m (0 : Int) (0 : Int) ((m.core.pc + (4 : Int)) % (4294967296 : Int))) fun x5 => (Tree.leaf (SV.tup [(SV.agg [(SV.arr IntKind.u32 16 x5.core.regs), (SV.v (Value.int IntKind.u32 x5.core.pc)), (SV.arr IntKind.u32 12 x5.core.csr), (SV.rd ETy.u8 x5.mem), (SV.v (Value.int IntKind.u64 x5.time)), (SV.rd ETy.u8 x5.out), (SV.v (Value.bool x5.halted))]), (SV.agg [(SV.v (Value.int IntKind.i64 (0 : Int))), (SV.v (Value.int IntKind.u32 (0 : Int)))])]))))) else (bif (BEq.beq i.op (18 : Int)) then (Tree.letv (okO [(AT.i IntKind.u32)]) ((i.imm * (4 : Int)) % (4294967296 : Int)) fun x4 => (Tree.letv (okO [AT.mach]) (K.wput m i.rd (IntKind.wrap IntKind.u32 (m.core.pc + (4 : Int))) ((m.core.pc + x4) % (4294967296 : Int))) fun x5 => (Tree.leaf (SV.tup [(SV.agg [(SV.arr IntKind.u32 16 x5.core.regs), (SV.v (Value.int IntKind.u32 x5.core.pc)), (SV.arr IntKind.u32 12 x5.core.csr), (SV.rd ETy.u8 x5.mem), (SV.v (Value.int IntKind.u64 x5.time)), (SV.rd ETy.u8 x5.out), (SV.v (Value.bool x5.halted))]), (SV.agg [(SV.v (Value.int IntKind.i64 (0 : Int))), (SV.v (Value.int IntKind.u32 (0 : Int)))])])))) else (bif (BEq.beq i.op (19 : Int)) then (Tree.letv (okO [AT.mach]) (K.wput m i.rd (IntKind.wrap IntKind.u32 (m.core.pc + (4 : Int))) ((m.core.pc + (0 : Int)) % (4294967296 : Int))) fun x4 => (Tree.leaf (SV.tup [(SV.agg [(SV.arr IntKind.u32 16 x4.core.regs), (SV.v (Value.int IntKind.u32 (IntKind.wrap IntKind.u32 (x0 + x3)))), (SV.arr IntKind.u32 12
 x4.core.csr), (SV.rd ETy.u8 x4.mem), (SV.v (Value.int IntKind.u64 x4.time)), (SV.rd ETy.u8 x4.out), (SV.v (Value.bool x4.halted))]), (SV.agg [(SV.v (Value.int IntKind.i64 (0 : Int))), (SV.v (Value.int IntKind.u32 (0 : Int)))])]))) else (Tree.leaf (SV.tup [(SV.agg [(SV.arr IntKind.u32 16 m.core.regs), (SV.v (Value.int IntKind.u32 m.core.pc)), (SV.arr IntKind.u32 12 m.core.csr), (SV.rd ETy.u8 m.mem), (SV.v (Value.int IntKind.u64 m.time)), (SV.rd ETy.u8 m.out), (SV.v (Value.bool m.halted))]), (SV.agg [(SV.v (Value.int IntKind.i64 (5 : Int))), (SV.v (Value.int IntKind.u32 (0 : Int)))])])))))))))))))))))))))))) := by kernel_rfl
section
attribute [local irreducible] evF evFL evFLs evFP
theorem a_ref11_Do (m : PMach) (i : PInstr) (hpre : 1 ≤ i.op ∧ i.op ≤ 20 ∧ m.mem.length ≤ 1099511627776) (ok_m : okMach m) (ok_i : okInstr i) : (evF E_ref11_Do 60 93 (encArgs [.mach, .instr] (m, i, ()))).ends fun out_ => decO [.mach, .trap] out_ = some (K.exec m i) := by
  rw [t_ref11_Do, Tree.ends_holds]
  obtain ⟨im0, im1⟩ := okI_i32 ok_i.imm
  have hpre1 := hpre.1
  have hpre2 := hpre.2.1
  have hpre3 := hpre.2.2
  simp only [Tree.holds_loop, Tree.holds_fork, Tree.holds_next, if_true, Tree.holds_cond, Tree.holds_letv, Tree.holds_leaf, Tree.holds_fail, decO, decA, decTup, decMach, decCore, decTrap, decInstr, decPart, decGuest, decConf, decEvent, decVcpu, decStep, bytesS, boolS, eventsS, intsS, guestsS, vcpusS, rowS, castL, Option.bind_some, Option.map_some, Option.some.injEq, Nat.beq_refl, beq_self_eq_true, Bool.and_self, cond_true, cond_false, eq_self, beq_iff_eq, beq_eq_false_iff_ne, bne_iff_ne, bne_eq_false_iff_eq, ne_eq, decide_eq_true_eq, decide_eq_false_iff_not, ble_true, ble_false, inRange_iff, inRange_false, wrap32]
  have e0 : (K.get m.core.regs i.ra + i.imm * 1 % 4294967296) % 4294967296 = K.ea m i := by unfold K.ea; rw [Int.mul_one]
  have e1 : i.imm * 4 % 4294967296 = K.far i := by unfold K.far; omega
  have e2 : i.imm * 16384 % 4294967296 = i.imm % 4294967296 * 16384 % 4294967296 := by omega
  have put0 : ∀ (x : PMach) (v p : Int), K.wput x 0 v p = K.wpc x p := fun x v p => by unfold K.wput K.wpc K.put; rw [if_neg (by omega)]
  simp only [e0, e1, e2, put0]
  clear ok_m ok_i im0 im1
  unfold K.exec
  have ss := fun a n v => store_same (m := m) (a := a) (n := n) (v := v)
  repeat' (first | refine drop_ok ?_ | intro _ | with_reducible apply And.intro)
  all_goals first
    | omega
    | (exfalso; rename_i q; apply q; first | omega | (split <;> omega))
    | (rw [if_neg (by omega), if_neg (by omega), if_neg (by omega), if_neg (by omega), if_neg (by omega), if_neg (by omega), if_neg (by omega)]; first | (rw [if_pos (by assumption)]; rfl) | (rw [if_neg (by omega)]))
    | (simp_all; done)
    | (simp_all; omega)
    | trace_state
  
theorem c_ref11_Do : SpecOk EB 93 S_ref11_Do := spec_sig ok_ref11_Do (n := 60) fun ⟨m, i, ⟨⟩⟩ h hok => a_ref11_Do m i (of_decide_eq_true h) (ok_mach (okSL_head hok)) (ok_instr (okSL_head (okSL_tail hok)))
end

/-! ref09_Enter -/

def S_ref09_Enter : Spec := sig [.core, .trap] [.core] (fun (c, t, _) => K.enter c t)
noncomputable def E_ref09_Enter : Env := EB.adds [(95, S_ref01_Put), (94, S_ref01_Field)]

theorem ok_ref09_Enter : EnvOk E_ref09_Enter := okEB.adds (l := _) ⟨c_ref01_Put, c_ref01_Field, trivial⟩
theorem t_ref09_Enter (c : PCore) (t : PTrap) : evF E_ref09_Enter 60 54 (encArgs [.core, .trap] (c, t, ())) = bif (BEq.beq t.cause (0 : Int)) then (Tree.leaf (SV.agg [(SV.arr IntKind.u32 16 c.regs), (SV.v (Value.int IntKind.u32 c.pc)), (SV.arr IntKind.u32 12 c.csr)])) else (Tree.letv (okO [(AT.i IntKind.u32)]) (K.field (List.getD c.csr 0 (0 : Int)) (0 : Int) (1 : Int)) fun x0 => (Tree.letv (okO [(AT.i IntKind.u32)]) (K.field (List.getD c.csr 0 (0 : Int)) (1 : Int) (1 : Int)) fun x1 => (Tree.letv (okO [(AT.i IntKind.u32)]) (K.bput (List.getD c.csr 0 (0 : Int)) (0 : Int) (4 : Int) (IntKind.wrap IntKind.u32 ((IntKind.wrap IntKind.u32 ((1 : Int) + (IntKind.wrap IntKind.u32 ((4 : Int) * x0)))) + (IntKind.wrap IntKind.u32 ((8 : Int) * x1))))) fun x2 => (Tree.leaf (SV.agg [(SV.arr IntKind.u32 16 c.regs), (SV.v (Value.int IntKind.u32 (List.getD (List.set (List.set (List.set (List.set c.csr 0 x2) 1 c.pc) 2 (IntKind.wrap IntKind.u32 t.cause)) 3 t.tval) 4 (0 : Int)))), (SV.arr IntKind.u32 12 (List.set (List.set (List.set (List.set c.csr 0 x2) 1 c.pc) 2 (IntKind.wrap IntKind.u32 t.cause)) 3 t.tval))]))))) := by kernel_rfl
section
attribute [local irreducible] evF evFL evFLs evFP
theorem a_ref09_Enter (c : PCore) (t : PTrap) (ok_c : okCore c) (ok_t : okTrap t) : (evF E_ref09_Enter 60 54 (encArgs [.core, .trap] (c, t, ()))).ends fun out_ => decO [.core] out_ = some (K.enter c t) := by
  rw [t_ref09_Enter, Tree.ends_holds]
  obtain ⟨s0, s1⟩ := ok_c.csr.u32 (i := 0) (by omega)
  obtain ⟨a0, a1, a2, a3, a4, a5, a6, a7, a8, a9, a10, a11, hc⟩ := list12 ok_c.csr.1
  have hs : c.csr.getD 0 0 = a0 := by rw [hc]; rfl
  rw [hs] at s0 s1
  simp only [Tree.holds_loop, Tree.holds_fork, Tree.holds_next, if_true, Tree.holds_cond, Tree.holds_letv, Tree.holds_leaf, Tree.holds_fail, decO, decA, decTup, decMach, decCore, decTrap, decInstr, decPart, decGuest, decConf, decEvent, decVcpu, decStep, bytesS, boolS, eventsS, intsS, guestsS, vcpusS, rowS, castL, Option.bind_some, Option.map_some, Option.some.injEq, Nat.beq_refl, beq_self_eq_true, Bool.and_self, cond_true, cond_false, eq_self, beq_iff_eq, beq_eq_false_iff_ne, bne_iff_ne, bne_eq_false_iff_eq, ne_eq, decide_eq_true_eq, decide_eq_false_iff_not, ble_true, ble_false, inRange_iff, inRange_false, K.enter, hc, wrap32]
  simp only [List.set_cons_zero, List.set_cons_succ, List.getD_cons_zero, List.getD_cons_succ]
  refine ⟨fun h => ?_, fun h => ?_⟩
  · rw [if_pos h, ← hc]
  rw [if_neg h]
  unfold K.enterS
  have f0 : K.field a0 0 1 = a0 % 2 := by simp [K.field, K.pow]
  have f1 : K.field a0 1 1 = a0 / 2 % 2 := by simp [K.field, K.pow]
  have p : ∀ x v : Int, K.bput x 0 4 v = ((16 * (x.toNat / 16) + v.toNat % 16 : Nat) : Int) := fun x v => by simp [K.bput, Nat.mod_one]
  rw [f0, f1, p]
  intro _ _ _
  simp only [PCore.mk.injEq, List.cons.injEq, and_true, true_and]
  show @Eq Int _ _
  omega
  
theorem c_ref09_Enter : SpecOk EB 54 S_ref09_Enter := spec_sig ok_ref09_Enter (n := 60) fun ⟨c, t, ⟨⟩⟩ h hok => a_ref09_Enter c t (ok_core (okSL_head hok)) (ok_trap (okSL_head (okSL_tail hok)))
end

/-! ref13_Plain -/

def S_ref13_Plain : Spec := sig [.mach] [.mach, .trap] (fun (m, _) => K.plain m) (pre := fun (m, _) => decide (m.mem.length ≤ 1099511627776 ∧ m.out.length ≤ 1099511627776))
noncomputable def E_ref13_Plain : Env := EB.adds [(66, S_ref13_Now), (91, S_ref02_Privileged), (92, S_ref12_Do), (93, S_ref11_Do), (54, S_ref09_Enter)]

theorem ok_ref13_Plain : EnvOk E_ref13_Plain := okEB.adds (l := _) ⟨c_ref13_Now, c_ref02_Privileged, c_ref12_Do, c_ref11_Do, c_ref09_Enter, trivial⟩
theorem t_ref13_Plain (m : PMach) : evF E_ref13_Plain 60 53 (encArgs [.mach] (m, ())) = bif m.halted then (Tree.leaf (SV.tup [(SV.agg [(SV.arr IntKind.u32 16 m.core.regs), (SV.v (Value.int IntKind.u32 m.core.pc)), (SV.arr IntKind.u32 12 m.core.csr), (SV.rd ETy.u8 m.mem), (SV.v (Value.int IntKind.u64 m.time)), (SV.rd ETy.u8 m.out), (SV.v (Value.bool m.halted))]), (SV.agg [(SV.v (Value.int IntKind.i64 (0 : Int))), (SV.v (Value.int IntKind.u32 (0 : Int)))])])) else (Tree.letv (okO [AT.instr, AT.trap]) (K.cur m) fun x0 => (bif (BEq.beq x0.snd.cause (0 : Int)) then (Tree.letv (okO [AT.b]) (K.privd x0.fst.op) fun x1 => (bif x1 then (bif (decide ((List.length m.out) ≤ 1099511627776)) then (Tree.letv (okO [AT.mach]) (K.priv m x0.fst) fun x2 => (bif (BEq.beq x0.snd.cause (0 : Int)) then (Tree.letv (okO [AT.b]) (K.privd x0.fst.op) fun x3 => (bif x3 then (bif (bne x0.snd.cause (0 : Int)) then (Tree.letv (okO [AT.core]) (K.enter x2.core x0.snd) fun x4 => (Tree.leaf (SV.tup [(SV.agg [(SV.arr IntKind.u32 16 x4.regs), (SV.v (Value.int IntKind.u32 x4.pc)), (SV.arr IntKind.u32 12 x4.csr), (SV.rd ETy.u8 x2.mem), (SV.v (Value.int IntKind.u64 (IntKind.wrap IntKind.u64 (m.time + (1 : Int))))), (SV.rd ETy.u8 x2.out), (SV.v (Value.bool x2.halted))]), (SV.agg [(SV.v (Value.int IntKind.i64 x0.snd.cause)), (SV.v (Value.int IntKind.u32 x0.snd.tval))])]))) else (Tree.leaf (SV.tup [(SV.agg [(SV.arr IntKind.u32 16 x2.core.regs), (SV.v (Value.int IntKind.u32 x2.core.pc)), (SV.arr IntKind.u32 12
 x2.core.csr), (SV.rd ETy.u8 x2.mem), (SV.v (Value.int IntKind.u64 (IntKind.wrap IntKind.u64 (m.time + (1 : Int))))), (SV.rd ETy.u8 x2.out), (SV.v (Value.bool x2.halted))]), (SV.agg [(SV.v (Value.int IntKind.i64 x0.snd.cause)), (SV.v (Value.int IntKind.u32 x0.snd.tval))])]))) else (bif (decide (And ((1 : Int) ≤ x0.fst.op) (And (x0.fst.op ≤ (20 : Int)) ((List.length m.mem) ≤ 1099511627776)))) then (Tree.letv (okO [AT.mach, AT.trap]) (K.exec m x0.fst) fun x4 => (bif (bne x4.snd.cause (0 : Int)) then (Tree.letv (okO [AT.core]) (K.enter x4.fst.core x4.snd) fun x5 => (Tree.leaf (SV.tup [(SV.agg [(SV.arr IntKind.u32 16 x5.regs), (SV.v (Value.int IntKind.u32 x5.pc)), (SV.arr IntKind.u32 12 x5.csr), (SV.rd ETy.u8 x4.fst.mem), (SV.v (Value.int IntKind.u64 (IntKind.wrap IntKind.u64 (m.time + (1 : Int))))), (SV.rd ETy.u8 x4.fst.out), (SV.v (Value.bool x4.fst.halted))]), (SV.agg [(SV.v (Value.int IntKind.i64 x4.snd.cause)), (SV.v (Value.int IntKind.u32 x4.snd.tval))])]))) else (Tree.leaf (SV.tup [(SV.agg [(SV.arr IntKind.u32 16 x4.fst.core.regs), (SV.v (Value.int IntKind.u32 x4.fst.core.pc)), (SV.arr IntKind.u32 12 x4.fst.core.csr), (SV.rd ETy.u8 x4.fst.mem), (SV.v (Value.int IntKind.u64 (IntKind.wrap IntKind.u64 (m.time + (1 : Int))))), (SV.rd ETy.u8 x4.fst.out), (SV.v (Value.bool x4.fst.halted))]), (SV.agg [(SV.v (Value.int IntKind.i64 x4.snd.cause)), (SV.v (Value.int IntKind.u32 x4.snd.tval))])])))) else (Tree.fail)))) else (bif (bne x0.snd.cause (0 : Int)) then (Tree.letv (okO
 [AT.core]) (K.enter x2.core x0.snd) fun x3 => (Tree.leaf (SV.tup [(SV.agg [(SV.arr IntKind.u32 16 x3.regs), (SV.v (Value.int IntKind.u32 x3.pc)), (SV.arr IntKind.u32 12 x3.csr), (SV.rd ETy.u8 x2.mem), (SV.v (Value.int IntKind.u64 (IntKind.wrap IntKind.u64 (m.time + (1 : Int))))), (SV.rd ETy.u8 x2.out), (SV.v (Value.bool x2.halted))]), (SV.agg [(SV.v (Value.int IntKind.i64 x0.snd.cause)), (SV.v (Value.int IntKind.u32 x0.snd.tval))])]))) else (Tree.leaf (SV.tup [(SV.agg [(SV.arr IntKind.u32 16 x2.core.regs), (SV.v (Value.int IntKind.u32 x2.core.pc)), (SV.arr IntKind.u32 12 x2.core.csr), (SV.rd ETy.u8 x2.mem), (SV.v (Value.int IntKind.u64 (IntKind.wrap IntKind.u64 (m.time + (1 : Int))))), (SV.rd ETy.u8 x2.out), (SV.v (Value.bool x2.halted))]), (SV.agg [(SV.v (Value.int IntKind.i64 x0.snd.cause)), (SV.v (Value.int IntKind.u32 x0.snd.tval))])]))))) else (Tree.fail)) else (bif (BEq.beq x0.snd.cause (0 : Int)) then (Tree.letv (okO [AT.b]) (K.privd x0.fst.op) fun x2 => (bif x2 then (bif (bne x0.snd.cause (0 : Int)) then (Tree.letv (okO [AT.core]) (K.enter m.core x0.snd) fun x3 => (Tree.leaf (SV.tup [(SV.agg [(SV.arr IntKind.u32 16 x3.regs), (SV.v (Value.int IntKind.u32 x3.pc)), (SV.arr IntKind.u32 12 x3.csr), (SV.rd ETy.u8 m.mem), (SV.v (Value.int IntKind.u64 (IntKind.wrap IntKind.u64 (m.time + (1 : Int))))), (SV.rd ETy.u8 m.out), (SV.v (Value.bool m.halted))]), (SV.agg [(SV.v (Value.int IntKind.i64 x0.snd.cause)), (SV.v (Value.int IntKind.u32 x0.snd.tval))])]))) else (Tree.leaf
 (SV.tup [(SV.agg [(SV.arr IntKind.u32 16 m.core.regs), (SV.v (Value.int IntKind.u32 m.core.pc)), (SV.arr IntKind.u32 12 m.core.csr), (SV.rd ETy.u8 m.mem), (SV.v (Value.int IntKind.u64 (IntKind.wrap IntKind.u64 (m.time + (1 : Int))))), (SV.rd ETy.u8 m.out), (SV.v (Value.bool m.halted))]), (SV.agg [(SV.v (Value.int IntKind.i64 x0.snd.cause)), (SV.v (Value.int IntKind.u32 x0.snd.tval))])]))) else (bif (decide (And ((1 : Int) ≤ x0.fst.op) (And (x0.fst.op ≤ (20 : Int)) ((List.length m.mem) ≤ 1099511627776)))) then (Tree.letv (okO [AT.mach, AT.trap]) (K.exec m x0.fst) fun x3 => (bif (bne x3.snd.cause (0 : Int)) then (Tree.letv (okO [AT.core]) (K.enter x3.fst.core x3.snd) fun x4 => (Tree.leaf (SV.tup [(SV.agg [(SV.arr IntKind.u32 16 x4.regs), (SV.v (Value.int IntKind.u32 x4.pc)), (SV.arr IntKind.u32 12 x4.csr), (SV.rd ETy.u8 x3.fst.mem), (SV.v (Value.int IntKind.u64 (IntKind.wrap IntKind.u64 (m.time + (1 : Int))))), (SV.rd ETy.u8 x3.fst.out), (SV.v (Value.bool x3.fst.halted))]), (SV.agg [(SV.v (Value.int IntKind.i64 x3.snd.cause)), (SV.v (Value.int IntKind.u32 x3.snd.tval))])]))) else (Tree.leaf (SV.tup [(SV.agg [(SV.arr IntKind.u32 16 x3.fst.core.regs), (SV.v (Value.int IntKind.u32 x3.fst.core.pc)), (SV.arr IntKind.u32 12 x3.fst.core.csr), (SV.rd ETy.u8 x3.fst.mem), (SV.v (Value.int IntKind.u64 (IntKind.wrap IntKind.u64 (m.time + (1 : Int))))), (SV.rd ETy.u8 x3.fst.out), (SV.v (Value.bool x3.fst.halted))]), (SV.agg [(SV.v (Value.int IntKind.i64 x3.snd.cause)), (SV.v (Value.int
 IntKind.u32 x3.snd.tval))])])))) else (Tree.fail)))) else (bif (bne x0.snd.cause (0 : Int)) then (Tree.letv (okO [AT.core]) (K.enter m.core x0.snd) fun x2 => (Tree.leaf (SV.tup [(SV.agg [(SV.arr IntKind.u32 16 x2.regs), (SV.v (Value.int IntKind.u32 x2.pc)), (SV.arr IntKind.u32 12 x2.csr), (SV.rd ETy.u8 m.mem), (SV.v (Value.int IntKind.u64 (IntKind.wrap IntKind.u64 (m.time + (1 : Int))))), (SV.rd ETy.u8 m.out), (SV.v (Value.bool m.halted))]), (SV.agg [(SV.v (Value.int IntKind.i64 x0.snd.cause)), (SV.v (Value.int IntKind.u32 x0.snd.tval))])]))) else (Tree.leaf (SV.tup [(SV.agg [(SV.arr IntKind.u32 16 m.core.regs), (SV.v (Value.int IntKind.u32 m.core.pc)), (SV.arr IntKind.u32 12 m.core.csr), (SV.rd ETy.u8 m.mem), (SV.v (Value.int IntKind.u64 (IntKind.wrap IntKind.u64 (m.time + (1 : Int))))), (SV.rd ETy.u8 m.out), (SV.v (Value.bool m.halted))]), (SV.agg [(SV.v (Value.int IntKind.i64 x0.snd.cause)), (SV.v (Value.int IntKind.u32 x0.snd.tval))])])))))) else (bif (BEq.beq x0.snd.cause (0 : Int)) then (Tree.letv (okO [AT.b]) (K.privd x0.fst.op) fun x1 => (bif x1 then (bif (bne x0.snd.cause (0 : Int)) then (Tree.letv (okO [AT.core]) (K.enter m.core x0.snd) fun x2 => (Tree.leaf (SV.tup [(SV.agg [(SV.arr IntKind.u32 16 x2.regs), (SV.v (Value.int IntKind.u32 x2.pc)), (SV.arr IntKind.u32 12 x2.csr), (SV.rd ETy.u8 m.mem), (SV.v (Value.int IntKind.u64 (IntKind.wrap IntKind.u64 (m.time + (1 : Int))))), (SV.rd ETy.u8 m.out), (SV.v (Value.bool m.halted))]), (SV.agg [(SV.v (Value.int IntKind.i64
 x0.snd.cause)), (SV.v (Value.int IntKind.u32 x0.snd.tval))])]))) else (Tree.leaf (SV.tup [(SV.agg [(SV.arr IntKind.u32 16 m.core.regs), (SV.v (Value.int IntKind.u32 m.core.pc)), (SV.arr IntKind.u32 12 m.core.csr), (SV.rd ETy.u8 m.mem), (SV.v (Value.int IntKind.u64 (IntKind.wrap IntKind.u64 (m.time + (1 : Int))))), (SV.rd ETy.u8 m.out), (SV.v (Value.bool m.halted))]), (SV.agg [(SV.v (Value.int IntKind.i64 x0.snd.cause)), (SV.v (Value.int IntKind.u32 x0.snd.tval))])]))) else (bif (decide (And ((1 : Int) ≤ x0.fst.op) (And (x0.fst.op ≤ (20 : Int)) ((List.length m.mem) ≤ 1099511627776)))) then (Tree.letv (okO [AT.mach, AT.trap]) (K.exec m x0.fst) fun x2 => (bif (bne x2.snd.cause (0 : Int)) then (Tree.letv (okO [AT.core]) (K.enter x2.fst.core x2.snd) fun x3 => (Tree.leaf (SV.tup [(SV.agg [(SV.arr IntKind.u32 16 x3.regs), (SV.v (Value.int IntKind.u32 x3.pc)), (SV.arr IntKind.u32 12 x3.csr), (SV.rd ETy.u8 x2.fst.mem), (SV.v (Value.int IntKind.u64 (IntKind.wrap IntKind.u64 (m.time + (1 : Int))))), (SV.rd ETy.u8 x2.fst.out), (SV.v (Value.bool x2.fst.halted))]), (SV.agg [(SV.v (Value.int IntKind.i64 x2.snd.cause)), (SV.v (Value.int IntKind.u32 x2.snd.tval))])]))) else (Tree.leaf (SV.tup [(SV.agg [(SV.arr IntKind.u32 16 x2.fst.core.regs), (SV.v (Value.int IntKind.u32 x2.fst.core.pc)), (SV.arr IntKind.u32 12 x2.fst.core.csr), (SV.rd ETy.u8 x2.fst.mem), (SV.v (Value.int IntKind.u64 (IntKind.wrap IntKind.u64 (m.time + (1 : Int))))), (SV.rd ETy.u8 x2.fst.out), (SV.v (Value.bool
 x2.fst.halted))]), (SV.agg [(SV.v (Value.int IntKind.i64 x2.snd.cause)), (SV.v (Value.int IntKind.u32 x2.snd.tval))])])))) else (Tree.fail)))) else (bif (bne x0.snd.cause (0 : Int)) then (Tree.letv (okO [AT.core]) (K.enter m.core x0.snd) fun x1 => (Tree.leaf (SV.tup [(SV.agg [(SV.arr IntKind.u32 16 x1.regs), (SV.v (Value.int IntKind.u32 x1.pc)), (SV.arr IntKind.u32 12 x1.csr), (SV.rd ETy.u8 m.mem), (SV.v (Value.int IntKind.u64 (IntKind.wrap IntKind.u64 (m.time + (1 : Int))))), (SV.rd ETy.u8 m.out), (SV.v (Value.bool m.halted))]), (SV.agg [(SV.v (Value.int IntKind.i64 x0.snd.cause)), (SV.v (Value.int IntKind.u32 x0.snd.tval))])]))) else (Tree.leaf (SV.tup [(SV.agg [(SV.arr IntKind.u32 16 m.core.regs), (SV.v (Value.int IntKind.u32 m.core.pc)), (SV.arr IntKind.u32 12 m.core.csr), (SV.rd ETy.u8 m.mem), (SV.v (Value.int IntKind.u64 (IntKind.wrap IntKind.u64 (m.time + (1 : Int))))), (SV.rd ETy.u8 m.out), (SV.v (Value.bool m.halted))]), (SV.agg [(SV.v (Value.int IntKind.i64 x0.snd.cause)), (SV.v (Value.int IntKind.u32 x0.snd.tval))])])))))) := by kernel_rfl
section
attribute [local irreducible] evF evFL evFLs evFP
theorem a_ref13_Plain (m : PMach) (hpre : m.mem.length ≤ 1099511627776 ∧ m.out.length ≤ 1099511627776) (ok_m : okMach m) : (evF E_ref13_Plain 60 53 (encArgs [.mach] (m, ()))).ends fun out_ => decO [.mach, .trap] out_ = some (K.plain m) := by
  rw [t_ref13_Plain, Tree.ends_holds]
  have hmay := fun h => cur_may (m := m) h
  have hz := fun h => cur_zero (m := m) h
  simp only [Tree.holds_loop, Tree.holds_fork, Tree.holds_next, if_true, Tree.holds_cond, Tree.holds_letv, Tree.holds_leaf, Tree.holds_fail, decO, decA, decTup, decMach, decCore, decTrap, decInstr, decPart, decGuest, decConf, decEvent, decVcpu, decStep, bytesS, boolS, eventsS, intsS, guestsS, vcpusS, rowS, castL, Option.bind_some, Option.map_some, Option.some.injEq, Nat.beq_refl, beq_self_eq_true, Bool.and_self, cond_true, cond_false, eq_self, beq_iff_eq, beq_eq_false_iff_ne, bne_iff_ne, bne_eq_false_iff_eq, ne_eq, decide_eq_true_eq, decide_eq_false_iff_not, ble_true, ble_false, inRange_iff, inRange_false, wrap64]
  have x0 : m.halted = true → K.plain m = (m, ⟨0, 0⟩) := fun h => by unfold K.plain; rw [if_pos h]
  have x1 : m.halted = false → ¬ (K.cur m).2.cause = 0 → K.plain m = K.endS m (K.cur m).2 := fun h c => by unfold K.plain; rw [if_neg (by rw [h]; decide), if_pos c]
  have x2 : m.halted = false → (K.cur m).2.cause = 0 → K.privd (K.cur m).1.op = true → K.plain m = K.endS (K.priv m (K.cur m).1) ⟨0, 0⟩ := fun h c p => by unfold K.plain; rw [if_neg (by rw [h]; decide), if_neg (by simp [c]), if_pos p]
  have x3 : m.halted = false → (K.cur m).2.cause = 0 → K.privd (K.cur m).1.op = false → K.plain m = K.endS (K.exec m (K.cur m).1).1 (K.exec m (K.cur m).1).2 := fun h c p => by unfold K.plain; rw [if_neg (by rw [h]; decide), if_neg (by simp [c]), if_neg (by rw [p]; decide)]
  repeat' (first | refine drop_ok ?_ | intro _ | with_reducible apply And.intro)
  all_goals first
    | omega
    | contradiction
    | (rw [x0 (by assumption)]; done)
    | (rw [x1 (by assumption) (by assumption)]; rfl)
    | (rw [x2 (by assumption) (by assumption) (by assumption), hz (by assumption)]; unfold K.endS; rw [enter_none, K.priv_time]; done)
    | (rw [x3 (by assumption) (by assumption) (by assumption)]; unfold K.endS; rw [exec_time]; first | (rw [enter_zero (by assumption)]; done) | done)
    | (exfalso
       have hm := (hmay (by assumption)).op
       rename_i p q
       apply q
       refine ⟨hm.1, ?_, hpre.1⟩
       have : ¬ (21 ≤ (K.cur m).1.op ∧ (K.cur m).1.op ≤ 25) := fun z => by rw [privd_range.2 z] at p; cases p
       omega)
    | (exfalso; clear x0 x1 x2 x3 hmay hz; simp_all; done)
    | trace_state
  
theorem c_ref13_Plain : SpecOk EB 53 S_ref13_Plain := spec_sig ok_ref13_Plain (n := 60) fun ⟨m, ⟨⟩⟩ h hok => a_ref13_Plain m (of_decide_eq_true h) (ok_mach (okSL_head hok))
end

/-! ref09_Enabled -/

def S_ref09_Enabled : Spec := sig [.core] [.b] (fun (c, _) => K.ie c)
noncomputable def E_ref09_Enabled : Env := EB.adds []

theorem ok_ref09_Enabled : EnvOk E_ref09_Enabled := okEB.adds (l := _) trivial
theorem t_ref09_Enabled (c : PCore) : evF E_ref09_Enabled 60 89 (encArgs [.core] (c, ())) = bif (BEq.beq (Int.tmod (IntKind.wrap IntKind.u32 (Int.tdiv (List.getD c.csr 0 (0 : Int)) (2 : Int))) (2 : Int)) (1 : Int)) then (Tree.leaf (SV.b true)) else (Tree.leaf (SV.b false)) := by kernel_rfl
section
attribute [local irreducible] evF evFL evFLs evFP
theorem a_ref09_Enabled (c : PCore) (ok_c : okCore c) : (evF E_ref09_Enabled 60 89 (encArgs [.core] (c, ()))).ends fun out_ => decO [.b] out_ = some (K.ie c) := by
  rw [t_ref09_Enabled, Tree.ends_holds]
  obtain ⟨s0, s1⟩ := ok_c.csr.u32 (i := 0) (by omega)
  have e1 : Int.tmod (IntKind.u32.wrap (Int.tdiv (c.csr.getD 0 0) 2)) 2 = c.csr.getD 0 0 / 2 % 2 := by rw [Int.tdiv_eq_ediv_of_nonneg s0, wrap32, Int.tmod_eq_emod_of_nonneg (by omega)]; omega
  simp only [Tree.holds_loop, Tree.holds_fork, Tree.holds_next, if_true, Tree.holds_cond, Tree.holds_letv, Tree.holds_leaf, Tree.holds_fail, decO, decA, decTup, decMach, decCore, decTrap, decInstr, decPart, decGuest, decConf, decEvent, decVcpu, decStep, bytesS, boolS, eventsS, intsS, guestsS, vcpusS, rowS, castL, Option.bind_some, Option.map_some, Option.some.injEq, Nat.beq_refl, beq_self_eq_true, Bool.and_self, cond_true, cond_false, eq_self, beq_iff_eq, beq_eq_false_iff_ne, bne_iff_ne, bne_eq_false_iff_eq, ne_eq, decide_eq_true_eq, decide_eq_false_iff_not, ble_true, ble_false, inRange_iff, inRange_false, K.ie, e1]
  repeat' (first | refine drop_ok ?_ | intro _ | with_reducible apply And.intro)
  all_goals (simp_all; try omega)
  
theorem c_ref09_Enabled : SpecOk EB 89 S_ref09_Enabled := spec_sig ok_ref09_Enabled (n := 60) fun ⟨c, ⟨⟩⟩ h hok => a_ref09_Enabled c (ok_core (okSL_head hok))
end

/-! ref04_Compare -/

def S_ref04_Compare : Spec := sig [.a .u32 12] [.i .u64] (fun (c, _) => K.cmp c)
noncomputable def E_ref04_Compare : Env := EB.adds []

theorem ok_ref04_Compare : EnvOk E_ref04_Compare := okEB.adds (l := _) trivial
theorem t_ref04_Compare (c : List Int) : evF E_ref04_Compare 60 90 (encArgs [.a .u32 12] (c, ())) = Tree.leaf (SV.v (Value.int IntKind.u64 (IntKind.wrap IntKind.u64 ((IntKind.wrap IntKind.u64 ((IntKind.wrap IntKind.u64 (List.getD c 10 (0 : Int))) * (4294967296 : Int))) + (IntKind.wrap IntKind.u64 (List.getD c 9 (0 : Int))))))) := by kernel_rfl
section
attribute [local irreducible] evF evFL evFLs evFP
theorem a_ref04_Compare (c : List Int) (ok_c : okL .u32 12 c) : (evF E_ref04_Compare 60 90 (encArgs [.a .u32 12] (c, ()))).ends fun out_ => decO [.i .u64] out_ = some (K.cmp c) := by
  rw [t_ref04_Compare, Tree.ends_holds]
  obtain ⟨a0, a1⟩ := ok_c.u32 (i := 9) (by omega)
  obtain ⟨b0, b1⟩ := ok_c.u32 (i := 10) (by omega)
  simp only [Tree.holds_loop, Tree.holds_fork, Tree.holds_next, if_true, Tree.holds_cond, Tree.holds_letv, Tree.holds_leaf, Tree.holds_fail, decO, decA, decTup, decMach, decCore, decTrap, decInstr, decPart, decGuest, decConf, decEvent, decVcpu, decStep, bytesS, boolS, eventsS, intsS, guestsS, vcpusS, rowS, castL, Option.bind_some, Option.map_some, Option.some.injEq, Nat.beq_refl, beq_self_eq_true, Bool.and_self, cond_true, cond_false, eq_self, K.cmp, wrap64]
  generalize c.getD 9 0 = a at *
  generalize c.getD 10 0 = b at *
  show @Eq Int _ _
  omega
  
theorem c_ref04_Compare : SpecOk EB 90 S_ref04_Compare := spec_sig ok_ref04_Compare (n := 60) fun ⟨c, ⟨⟩⟩ h hok => a_ref04_Compare c (ok_arr (okSL_head hok))
end

/-! ref10_Due -/

def S_ref10_Due : Spec := sig [.mach] [.b] (fun (m, _) => K.due m)
noncomputable def E_ref10_Due : Env := EB.adds [(89, S_ref09_Enabled), (90, S_ref04_Compare)]

theorem ok_ref10_Due : EnvOk E_ref10_Due := okEB.adds (l := _) ⟨c_ref09_Enabled, c_ref04_Compare, trivial⟩
theorem t_ref10_Due (m : PMach) : evF E_ref10_Due 60 52 (encArgs [.mach] (m, ())) = Tree.letv (okO [AT.b]) (K.ie m.core) fun x0 => (bif x0 then (Tree.letv (okO [(AT.i IntKind.u64)]) (K.cmp m.core.csr) fun x1 => (bif (decide (m.time ≥ x1)) then (Tree.leaf (SV.b true)) else (Tree.leaf (SV.b false)))) else (Tree.leaf (SV.b false))) := by kernel_rfl
section
attribute [local irreducible] evF evFL evFLs evFP
theorem a_ref10_Due (m : PMach) (ok_m : okMach m) : (evF E_ref10_Due 60 52 (encArgs [.mach] (m, ()))).ends fun out_ => decO [.b] out_ = some (K.due m) := by
  rw [t_ref10_Due, Tree.ends_holds]
  simp only [Tree.holds_loop, Tree.holds_fork, Tree.holds_next, if_true, Tree.holds_cond, Tree.holds_letv, Tree.holds_leaf, Tree.holds_fail, decO, decA, decTup, decMach, decCore, decTrap, decInstr, decPart, decGuest, decConf, decEvent, decVcpu, decStep, bytesS, boolS, eventsS, intsS, guestsS, vcpusS, rowS, castL, Option.bind_some, Option.map_some, Option.some.injEq, Nat.beq_refl, beq_self_eq_true, Bool.and_self, cond_true, cond_false, eq_self, beq_iff_eq, beq_eq_false_iff_ne, bne_iff_ne, bne_eq_false_iff_eq, ne_eq, decide_eq_true_eq, decide_eq_false_iff_not, ble_true, ble_false, inRange_iff, inRange_false, K.due]
  repeat' (first | refine drop_ok ?_ | intro _ | with_reducible apply And.intro)
  all_goals simp_all
  
theorem c_ref10_Due : SpecOk EB 52 S_ref10_Due := spec_sig ok_ref10_Due (n := 60) fun ⟨m, ⟨⟩⟩ h hok => a_ref10_Due m (ok_mach (okSL_head hok))
end

/-! ref13_Step -/

def S_ref13_Step : Spec := sig [.mach] [.mach, .trap] (fun (m, _) => K.step m) (pre := fun (m, _) => decide (m.mem.length ≤ 1099511627776 ∧ m.out.length ≤ 1099511627776))
noncomputable def E_ref13_Step : Env := EB.adds [(52, S_ref10_Due), (54, S_ref09_Enter), (53, S_ref13_Plain)]

theorem ok_ref13_Step : EnvOk E_ref13_Step := okEB.adds (l := _) ⟨c_ref10_Due, c_ref09_Enter, c_ref13_Plain, trivial⟩
theorem t_ref13_Step (m : PMach) : evF E_ref13_Step 60 27 (encArgs [.mach] (m, ())) = bif m.halted then (bif (decide (And ((List.length m.mem) ≤ 1099511627776) ((List.length m.out) ≤ 1099511627776))) then (Tree.letv (okO [AT.mach, AT.trap]) (K.plain m) fun x0 => (Tree.leaf (SV.tup [(SV.agg [(SV.arr IntKind.u32 16 x0.fst.core.regs), (SV.v (Value.int IntKind.u32 x0.fst.core.pc)), (SV.arr IntKind.u32 12 x0.fst.core.csr), (SV.rd ETy.u8 x0.fst.mem), (SV.v (Value.int IntKind.u64 x0.fst.time)), (SV.rd ETy.u8 x0.fst.out), (SV.v (Value.bool x0.fst.halted))]), (SV.agg [(SV.v (Value.int IntKind.i64 x0.snd.cause)), (SV.v (Value.int IntKind.u32 x0.snd.tval))])]))) else (Tree.fail)) else (Tree.letv (okO [AT.b]) (K.due m) fun x0 => (bif x0 then (Tree.letv (okO [AT.core]) (K.enter m.core (PTrap.mk (6 : Int) (0 : Int))) fun x1 => (Tree.leaf (SV.tup [(SV.agg [(SV.arr IntKind.u32 16 x1.regs), (SV.v (Value.int IntKind.u32 x1.pc)), (SV.arr IntKind.u32 12 x1.csr), (SV.rd ETy.u8 m.mem), (SV.v (Value.int IntKind.u64 (IntKind.wrap IntKind.u64 (m.time + (1 : Int))))), (SV.rd ETy.u8 m.out), (SV.v (Value.bool m.halted))]), (SV.agg [(SV.v (Value.int IntKind.i64 (6 : Int))), (SV.v (Value.int IntKind.u32 (0 : Int)))])]))) else (bif (decide (And ((List.length m.mem) ≤ 1099511627776) ((List.length m.out) ≤ 1099511627776))) then (Tree.letv (okO [AT.mach, AT.trap]) (K.plain m) fun x1 => (Tree.leaf (SV.tup [(SV.agg [(SV.arr IntKind.u32 16 x1.fst.core.regs), (SV.v (Value.int IntKind.u32 x1.fst.core.pc)), (SV.arr
 IntKind.u32 12 x1.fst.core.csr), (SV.rd ETy.u8 x1.fst.mem), (SV.v (Value.int IntKind.u64 x1.fst.time)), (SV.rd ETy.u8 x1.fst.out), (SV.v (Value.bool x1.fst.halted))]), (SV.agg [(SV.v (Value.int IntKind.i64 x1.snd.cause)), (SV.v (Value.int IntKind.u32 x1.snd.tval))])]))) else (Tree.fail)))) := by kernel_rfl
section
attribute [local irreducible] evF evFL evFLs evFP
theorem a_ref13_Step (m : PMach) (hpre : m.mem.length ≤ 1099511627776 ∧ m.out.length ≤ 1099511627776) (ok_m : okMach m) : (evF E_ref13_Step 60 27 (encArgs [.mach] (m, ()))).ends fun out_ => decO [.mach, .trap] out_ = some (K.step m) := by
  rw [t_ref13_Step, Tree.ends_holds]
  simp only [Tree.holds_loop, Tree.holds_fork, Tree.holds_next, if_true, Tree.holds_cond, Tree.holds_letv, Tree.holds_leaf, Tree.holds_fail, decO, decA, decTup, decMach, decCore, decTrap, decInstr, decPart, decGuest, decConf, decEvent, decVcpu, decStep, bytesS, boolS, eventsS, intsS, guestsS, vcpusS, rowS, castL, Option.bind_some, Option.map_some, Option.some.injEq, Nat.beq_refl, beq_self_eq_true, Bool.and_self, cond_true, cond_false, eq_self, beq_iff_eq, beq_eq_false_iff_ne, bne_iff_ne, bne_eq_false_iff_eq, ne_eq, decide_eq_true_eq, decide_eq_false_iff_not, ble_true, ble_false, inRange_iff, inRange_false, wrap64]
  have x0 : ¬ (m.halted = false ∧ K.due m = true) → K.step m = K.plain m := fun h => by unfold K.step; rw [if_neg h]
  have x1 : m.halted = false → K.due m = true → K.step m = K.endS m ⟨6, 0⟩ := fun h c => by unfold K.step; rw [if_pos ⟨h, c⟩]
  repeat' (first | refine drop_ok ?_ | intro _ | with_reducible apply And.intro)
  all_goals first
    | omega
    | contradiction
    | (rw [x1 (by assumption) (by assumption)]; rfl)
    | (rw [x0 (by simp_all)]; done)
    | trace_state
  
theorem c_ref13_Step : SpecOk EB 27 S_ref13_Step := spec_sig ok_ref13_Step (n := 60) fun ⟨m, ⟨⟩⟩ h hok => a_ref13_Step m (of_decide_eq_true h) (ok_mach (okSL_head hok))
end

/-! ref12_Reads -/

def S_ref12_Reads : Spec := sig [.instr] [.b] (fun (i, _) => K.reads i)
noncomputable def E_ref12_Reads : Env := EB.adds []

theorem ok_ref12_Reads : EnvOk E_ref12_Reads := okEB.adds (l := _) trivial
theorem t_ref12_Reads (i : PInstr) : evF E_ref12_Reads 60 67 (encArgs [.instr] (i, ())) = bif (BEq.beq i.op (21 : Int)) then (bif (BEq.beq i.imm (7 : Int)) then (Tree.leaf (SV.b true)) else (bif (BEq.beq i.imm (8 : Int)) then (Tree.leaf (SV.b true)) else (Tree.leaf (SV.b false)))) else (Tree.leaf (SV.b false)) := by kernel_rfl
section
attribute [local irreducible] evF evFL evFLs evFP
theorem a_ref12_Reads (i : PInstr) (ok_i : okInstr i) : (evF E_ref12_Reads 60 67 (encArgs [.instr] (i, ()))).ends fun out_ => decO [.b] out_ = some (K.reads i) := by
  rw [t_ref12_Reads, Tree.ends_holds]
  simp only [Tree.holds_loop, Tree.holds_fork, Tree.holds_next, if_true, Tree.holds_cond, Tree.holds_letv, Tree.holds_leaf, Tree.holds_fail, decO, decA, decTup, decMach, decCore, decTrap, decInstr, decPart, decGuest, decConf, decEvent, decVcpu, decStep, bytesS, boolS, eventsS, intsS, guestsS, vcpusS, rowS, castL, Option.bind_some, Option.map_some, Option.some.injEq, Nat.beq_refl, beq_self_eq_true, Bool.and_self, cond_true, cond_false, eq_self, beq_iff_eq, beq_eq_false_iff_ne, bne_iff_ne, bne_eq_false_iff_eq, ne_eq, decide_eq_true_eq, decide_eq_false_iff_not, ble_true, ble_false, inRange_iff, inRange_false]
  repeat' (first | refine drop_ok ?_ | intro _ | with_reducible apply And.intro)
  all_goals simp_all [K.reads]
  
theorem c_ref12_Reads : SpecOk EB 67 S_ref12_Reads := spec_sig ok_ref12_Reads (n := 60) fun ⟨i, ⟨⟩⟩ h hok => a_ref12_Reads i (ok_instr (okSL_head hok))
end

/-! ref26_one -/

def S_ref26_one : Spec := sig [.mach, .event, .b] [.mach, .b] (fun (m, e, has, _) => K.oneR m e has) (pre := fun (m, e, has, _) => decide (m.mem.length ≤ 1099511627776 ∧ m.out.length ≤ 1099511627776))
noncomputable def E_ref26_one : Env := EB.adds [(66, S_ref13_Now), (53, S_ref13_Plain), (27, S_ref13_Step), (52, S_ref10_Due), (67, S_ref12_Reads)]

theorem ok_ref26_one : EnvOk E_ref26_one := okEB.adds (l := _) ⟨c_ref13_Now, c_ref13_Plain, c_ref13_Step, c_ref10_Due, c_ref12_Reads, trivial⟩
theorem t_ref26_one (m : PMach) (e : PEvent) (has : Bool) : evF E_ref26_one 60 38 (encArgs [.mach, .event, .b] (m, e, has, ())) = bif m.halted then (Tree.leaf (SV.tup [(SV.agg [(SV.arr IntKind.u32 16 m.core.regs), (SV.v (Value.int IntKind.u32 m.core.pc)), (SV.arr IntKind.u32 12 m.core.csr), (SV.rd ETy.u8 m.mem), (SV.v (Value.int IntKind.u64 m.time)), (SV.rd ETy.u8 m.out), (SV.v (Value.bool m.halted))]), (SV.b false)])) else (bif has then (Tree.letv (okO [AT.instr, AT.trap]) (K.cur (PMach.mk m.core m.mem e.time m.out m.halted)) fun x0 => (bif (decide (And ((List.length m.mem) ≤ 1099511627776) ((List.length m.out) ≤ 1099511627776))) then (Tree.letv (okO [AT.mach, AT.trap]) (K.step (PMach.mk m.core m.mem e.time m.out m.halted)) fun x1 => (bif (BEq.beq e.kind (1 : Int)) then (Tree.letv (okO [AT.b]) (K.due (PMach.mk m.core m.mem e.time m.out m.halted)) fun x2 => (bif x2 then (Tree.leaf (SV.tup [(SV.agg [(SV.arr IntKind.u32 16 x1.fst.core.regs), (SV.v (Value.int IntKind.u32 x1.fst.core.pc)), (SV.arr IntKind.u32 12 x1.fst.core.csr), (SV.rd ETy.u8 x1.fst.mem), (SV.v (Value.int IntKind.u64 x1.fst.time)), (SV.rd ETy.u8 x1.fst.out), (SV.v (Value.bool x1.fst.halted))]), (SV.b true)])) else (Tree.leaf (SV.tup [(SV.agg [(SV.arr IntKind.u32 16 x1.fst.core.regs), (SV.v (Value.int IntKind.u32 x1.fst.core.pc)), (SV.arr IntKind.u32 12 x1.fst.core.csr), (SV.rd ETy.u8 x1.fst.mem), (SV.v (Value.int IntKind.u64 x1.fst.time)), (SV.rd ETy.u8 x1.fst.out), (SV.v (Value.bool x1.fst.halted))]), (SV.b
 false)])))) else (bif (decide (And ((List.length m.mem) ≤ 1099511627776) ((List.length m.out) ≤ 1099511627776))) then (Tree.letv (okO [AT.mach, AT.trap]) (K.plain (PMach.mk m.core m.mem e.time m.out m.halted)) fun x2 => (bif (bne x0.snd.cause (0 : Int)) then (Tree.leaf (SV.tup [(SV.agg [(SV.arr IntKind.u32 16 x2.fst.core.regs), (SV.v (Value.int IntKind.u32 x2.fst.core.pc)), (SV.arr IntKind.u32 12 x2.fst.core.csr), (SV.rd ETy.u8 x2.fst.mem), (SV.v (Value.int IntKind.u64 x2.fst.time)), (SV.rd ETy.u8 x2.fst.out), (SV.v (Value.bool x2.fst.halted))]), (SV.b false)])) else (bif (bne x0.fst.op (21 : Int)) then (Tree.leaf (SV.tup [(SV.agg [(SV.arr IntKind.u32 16 x2.fst.core.regs), (SV.v (Value.int IntKind.u32 x2.fst.core.pc)), (SV.arr IntKind.u32 12 x2.fst.core.csr), (SV.rd ETy.u8 x2.fst.mem), (SV.v (Value.int IntKind.u64 x2.fst.time)), (SV.rd ETy.u8 x2.fst.out), (SV.v (Value.bool x2.fst.halted))]), (SV.b false)])) else (bif (BEq.beq e.kind (2 : Int)) then (bif (BEq.beq x0.fst.imm (7 : Int)) then (Tree.leaf (SV.tup [(SV.agg [(SV.arr IntKind.u32 16 x2.fst.core.regs), (SV.v (Value.int IntKind.u32 x2.fst.core.pc)), (SV.arr IntKind.u32 12 x2.fst.core.csr), (SV.rd ETy.u8 x2.fst.mem), (SV.v (Value.int IntKind.u64 x2.fst.time)), (SV.rd ETy.u8 x2.fst.out), (SV.v (Value.bool x2.fst.halted))]), (SV.b true)])) else (bif (BEq.beq e.kind (3 : Int)) then (bif (BEq.beq x0.fst.imm (8 : Int)) then (Tree.leaf (SV.tup [(SV.agg [(SV.arr IntKind.u32 16 x2.fst.core.regs), (SV.v (Value.int IntKind.u32
 x2.fst.core.pc)), (SV.arr IntKind.u32 12 x2.fst.core.csr), (SV.rd ETy.u8 x2.fst.mem), (SV.v (Value.int IntKind.u64 x2.fst.time)), (SV.rd ETy.u8 x2.fst.out), (SV.v (Value.bool x2.fst.halted))]), (SV.b true)])) else (Tree.leaf (SV.tup [(SV.agg [(SV.arr IntKind.u32 16 x2.fst.core.regs), (SV.v (Value.int IntKind.u32 x2.fst.core.pc)), (SV.arr IntKind.u32 12 x2.fst.core.csr), (SV.rd ETy.u8 x2.fst.mem), (SV.v (Value.int IntKind.u64 x2.fst.time)), (SV.rd ETy.u8 x2.fst.out), (SV.v (Value.bool x2.fst.halted))]), (SV.b false)]))) else (Tree.leaf (SV.tup [(SV.agg [(SV.arr IntKind.u32 16 x2.fst.core.regs), (SV.v (Value.int IntKind.u32 x2.fst.core.pc)), (SV.arr IntKind.u32 12 x2.fst.core.csr), (SV.rd ETy.u8 x2.fst.mem), (SV.v (Value.int IntKind.u64 x2.fst.time)), (SV.rd ETy.u8 x2.fst.out), (SV.v (Value.bool x2.fst.halted))]), (SV.b false)])))) else (bif (BEq.beq e.kind (3 : Int)) then (bif (BEq.beq x0.fst.imm (8 : Int)) then (Tree.leaf (SV.tup [(SV.agg [(SV.arr IntKind.u32 16 x2.fst.core.regs), (SV.v (Value.int IntKind.u32 x2.fst.core.pc)), (SV.arr IntKind.u32 12 x2.fst.core.csr), (SV.rd ETy.u8 x2.fst.mem), (SV.v (Value.int IntKind.u64 x2.fst.time)), (SV.rd ETy.u8 x2.fst.out), (SV.v (Value.bool x2.fst.halted))]), (SV.b true)])) else (Tree.leaf (SV.tup [(SV.agg [(SV.arr IntKind.u32 16 x2.fst.core.regs), (SV.v (Value.int IntKind.u32 x2.fst.core.pc)), (SV.arr IntKind.u32 12 x2.fst.core.csr), (SV.rd ETy.u8 x2.fst.mem), (SV.v (Value.int IntKind.u64 x2.fst.time)), (SV.rd ETy.u8 x2.fst.out), (SV.v
 (Value.bool x2.fst.halted))]), (SV.b false)]))) else (Tree.leaf (SV.tup [(SV.agg [(SV.arr IntKind.u32 16 x2.fst.core.regs), (SV.v (Value.int IntKind.u32 x2.fst.core.pc)), (SV.arr IntKind.u32 12 x2.fst.core.csr), (SV.rd ETy.u8 x2.fst.mem), (SV.v (Value.int IntKind.u64 x2.fst.time)), (SV.rd ETy.u8 x2.fst.out), (SV.v (Value.bool x2.fst.halted))]), (SV.b false)]))))))) else (Tree.fail)))) else (Tree.fail))) else (Tree.letv (okO [AT.instr, AT.trap]) (K.cur m) fun x0 => (bif (decide (And ((List.length m.mem) ≤ 1099511627776) ((List.length m.out) ≤ 1099511627776))) then (Tree.letv (okO [AT.mach, AT.trap]) (K.plain m) fun x1 => (bif (bne x0.snd.cause (0 : Int)) then (Tree.leaf (SV.tup [(SV.agg [(SV.arr IntKind.u32 16 x1.fst.core.regs), (SV.v (Value.int IntKind.u32 x1.fst.core.pc)), (SV.arr IntKind.u32 12 x1.fst.core.csr), (SV.rd ETy.u8 x1.fst.mem), (SV.v (Value.int IntKind.u64 x1.fst.time)), (SV.rd ETy.u8 x1.fst.out), (SV.v (Value.bool x1.fst.halted))]), (SV.b true)])) else (Tree.letv (okO [AT.b]) (K.reads x0.fst) fun x2 => (bif x2 then (Tree.leaf (SV.tup [(SV.agg [(SV.arr IntKind.u32 16 x1.fst.core.regs), (SV.v (Value.int IntKind.u32 x1.fst.core.pc)), (SV.arr IntKind.u32 12 x1.fst.core.csr), (SV.rd ETy.u8 x1.fst.mem), (SV.v (Value.int IntKind.u64 x1.fst.time)), (SV.rd ETy.u8 x1.fst.out), (SV.v (Value.bool x1.fst.halted))]), (SV.b false)])) else (Tree.leaf (SV.tup [(SV.agg [(SV.arr IntKind.u32 16 x1.fst.core.regs), (SV.v (Value.int IntKind.u32 x1.fst.core.pc)), (SV.arr IntKind.u32 12
 x1.fst.core.csr), (SV.rd ETy.u8 x1.fst.mem), (SV.v (Value.int IntKind.u64 x1.fst.time)), (SV.rd ETy.u8 x1.fst.out), (SV.v (Value.bool x1.fst.halted))]), (SV.b true)])))))) else (Tree.fail)))) := by kernel_rfl
section
attribute [local irreducible] evF evFL evFLs evFP
theorem a_ref26_one (m : PMach) (e : PEvent) (has : Bool) (hpre : m.mem.length ≤ 1099511627776 ∧ m.out.length ≤ 1099511627776) (ok_m : okMach m) (ok_e : okEvent e) (ok_has : okS (encA (.b) has)) : (evF E_ref26_one 60 38 (encArgs [.mach, .event, .b] (m, e, has, ()))).ends fun out_ => decO [.mach, .b] out_ = some (K.oneR m e has) := by
  rw [t_ref26_one, Tree.ends_holds]
  have hcm : decide (m.mem.length ≤ 1099511627776 ∧ m.out.length ≤ 1099511627776) = true := decide_eq_true hpre
  simp only [hcm]
  have e1 : ({ core := m.core, mem := m.mem, time := e.time, out := m.out, halted := m.halted } : PMach) = K.timed m e.time := rfl
  simp only [e1, Tree.holds_loop, Tree.holds_fork, Tree.holds_next, if_true, Tree.holds_cond, Tree.holds_letv, Tree.holds_leaf, Tree.holds_fail, decO, decA, decTup, decMach, decCore, decTrap, decInstr, decPart, decGuest, decConf, decEvent, decVcpu, decStep, bytesS, boolS, eventsS, intsS, guestsS, vcpusS, rowS, castL, Option.bind_some, Option.map_some, Option.some.injEq, Nat.beq_refl, beq_self_eq_true, Bool.and_self, cond_true, cond_false, eq_self, beq_iff_eq, beq_eq_false_iff_ne, bne_iff_ne, bne_eq_false_iff_eq, ne_eq, decide_eq_true_eq, decide_eq_false_iff_not, ble_true, ble_false, inRange_iff, inRange_false, cond_true]
  have r0 : m.halted = true → K.oneR m e has = (m, false) := fun h => by unfold K.oneR; rw [if_pos h]
  have r1 : m.halted = false → has = true → K.oneR m e has = (K.evRes m e, K.evOk m e) := fun h1 h2 => by unfold K.oneR; rw [if_neg (by rw [h1]; simp), if_pos h2]
  have r2 : m.halted = false → has = false → K.oneR m e has = ((K.plain m).1, K.plOk m) := fun h1 h2 => by unfold K.oneR; rw [if_neg (by rw [h1]; simp), if_neg (by rw [h2]; simp)]
  have v1 : e.kind = 1 → K.evRes m e = (K.step (K.timed m e.time)).1 := fun h => by unfold K.evRes; rw [if_pos h]
  have v2 : ¬ e.kind = 1 → K.evRes m e = (K.plain (K.timed m e.time)).1 := fun h => by unfold K.evRes; rw [if_neg h]
  repeat' (first | refine drop_ok ?_ | intro _ | with_reducible apply And.intro)
  all_goals first
    | exact (r0 (by assumption)).symm
    | (rw [r2 (by assumption) (by assumption)]; exact Prod.ext rfl (by simp [K.plOk, *]))
    | (rw [r1 (by assumption) (by assumption), v1 (by assumption)]; exact Prod.ext rfl (by simp [K.evOk, *]))
    | (exfalso; omega)
    | (rw [r1 (by assumption) (by assumption), v2 (by assumption)]; exact Prod.ext rfl (by simp [K.evOk, *]))
    | trace_state
  
theorem c_ref26_one : SpecOk EB 38 S_ref26_one := spec_sig ok_ref26_one (n := 60) fun ⟨m, e, has, ⟨⟩⟩ h hok => a_ref26_one m e has (of_decide_eq_true h) (ok_mach (okSL_head hok)) (ok_event (okSL_head (okSL_tail hok))) (okSL_head (okSL_tail (okSL_tail hok)))
end


end Go.Proofs.YtchljgmcempedaaGreatDoor
