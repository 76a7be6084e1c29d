/- Contracts of functions, by evaluation (nothing is claimed here). -/
import Derived.Test.YtjnigggpijfdeaaDoorSh29
import Derived.KernelRfl
import Derived.Test.YtjnigggpijfdeaaDoorProg
import Derived.Test.YtjnigggpijfdeaaDoorShadowDispatchedGuestIsConfinedB3
set_option linter.unusedVariables false
set_option linter.unusedSimpArgs false
set_option maxRecDepth 100000
set_option maxHeartbeats 1000000
namespace Go.Proofs.YtjnigggpijfdeaaDoor
open Go
/-! ref05_Same -/
@[reducible] def L_ref05_Same (a b : List Int) : LoopSpec where
  σ := Nat
  slots := [0, 1, 4, 5]
  keys := []
  vals := fun j => [.rd .u8 a, .rd .u8 b, .b false, .v (.int .i64 (j : Int))]
  blks := fun _ => []
  inv := fun j => j ≤ a.length ∧ a.take j = b.take j
  mu := fun j => a.length - j
def S_ref05_Same : Spec := sig [.rd .u8, .rd .u8] [.b] (fun (a, b, _) => decide (a = b))
noncomputable def E_ref05_Same : Env := EB.adds []

theorem ok_ref05_Same : EnvOk E_ref05_Same := okEB.adds (l := _) trivial

theorem t_ref05_Same (a : List Int) (b : List Int) : evFL E_ref05_Same (fun _ => some (L_ref05_Same a b)) 60 15 (encArgs [.rd .u8, .rd .u8] (a, b, ())) = 
  bif (bne (Int.ofNat (List.length a)) (Int.ofNat (List.length b))) then
    (Tree.leaf (SV.b false))
  else
    (Tree.loop 0 (L_ref05_Same a b) [(SV.rd ETy.u8 a), (SV.rd ETy.u8 b), (SV.b false), (SV.v (Value.int IntKind.i64 (0 : Int)))] [] fun (x0 : Nat) =>
    (bif (decide ((Int.ofNat x0) < (Int.ofNat (List.length a)))) then
      (bif (inRange (Int.ofNat x0) (List.length a)) then
        (bif (inRange (Int.ofNat x0) (List.length b)) then
          (bif (bne (List.getD a (Int.toNat (Int.ofNat x0)) (0 : Int)) (List.getD b (Int.toNat (Int.ofNat x0)) (0 : Int))) then
            (Tree.leaf (SV.b false))
          else
            ((Tree.next 0 [(SV.rd ETy.u8 a), (SV.rd ETy.u8 b), (SV.b false), (SV.v (Value.int IntKind.i64 (IntKind.wrap IntKind.i64 ((Int.ofNat x0) + (1 : Int)))))] [])))
        else
          (Tree.fail))
      else
        (Tree.fail))
    else
      (Tree.leaf (SV.b true)))) := by kernel_rfl
section
attribute [local irreducible] evF evFL
theorem a_ref05_Same (a : List Int) (b : List Int) (ok_a : okBytes a) (ok_b : okBytes b) : (evFL E_ref05_Same (fun _ => some (L_ref05_Same a b)) 60 15 (encArgs [.rd .u8, .rd .u8] (a, b, ()))).ends fun out_ => decO [.b] out_ = some (decide (a = b)) := by
  rw [t_ref05_Same, Tree.ends_holds]
  simp only [Tree.holds_cond, Tree.holds_leaf, Tree.holds_loop]
  refine ⟨fun h => ?_, fun h => ?_⟩
  · have h : ¬ ((a.length : Int) = (b.length : Int)) := by simpa using h
    have : a ≠ b := fun e => h (by rw [e])
    simp [decO, decA, decTup, decMach, decCore, decTrap, decInstr, decPart, decGuest, decConf, decEvent, decVcpu, decStep, bytesS, boolS, eventsS, intsS, guestsS, vcpusS, rowS, castL, Option.bind_some, Option.map_some, Option.some.injEq, Nat.beq_refl, beq_self_eq_true, Bool.and_self, cond_true, cond_false, eq_self, this]
  have hl : (a.length : Int) = (b.length : Int) := by simpa using h
  have hl : a.length = b.length := by omega
  have hlim : a.length ≤ 140737488355328 := ok_a.1
  refine ⟨⟨(0 : Nat), rfl, rfl, ⟨Nat.zero_le _, rfl⟩, trivial⟩, fun (j : Nat) ⟨hj, he⟩ => ?_⟩
  simp only [Tree.holds_loop, Tree.holds_fork, Tree.holds_next, if_true, Tree.holds_cond, Tree.holds_letv, Tree.holds_leaf, Tree.holds_fail]
  refine ⟨fun h => ?_, fun h => ?_⟩
  · have hlt : j < a.length := by simpa using h
    have r1 : inRange (j : Int) a.length = true := inRange_iff.2 ⟨by omega, by omega⟩
    have r2 : inRange (j : Int) b.length = true := inRange_iff.2 ⟨by omega, by omega⟩
    have e2 : IntKind.i64.wrap ((j : Int) + 1) = ((j + 1 : Nat) : Int) := by rw [wrapI64 (by omega) (by omega)]; rfl
    have ga : a.getD j 0 = a[j] := by simp [hlt]
    have gb : b.getD j 0 = b[j]'(by omega) := by simp [show j < b.length by omega]
    simp only [Int.ofNat_eq_natCast, Int.toNat_natCast, r1, r2, ga, gb]
    simp only [true_implies, Bool.true_eq_false, false_implies, and_true]
    refine ⟨fun q => ?_, fun q => ?_⟩
    · have : a ≠ b := fun e => by subst e; simp at q
      simp [decO, decA, decTup, decMach, decCore, decTrap, decInstr, decPart, decGuest, decConf, decEvent, decVcpu, decStep, bytesS, boolS, eventsS, intsS, guestsS, vcpusS, rowS, castL, Option.bind_some, Option.map_some, Option.some.injEq, Nat.beq_refl, beq_self_eq_true, Bool.and_self, cond_true, cond_false, eq_self, this]
    · have q : a[j] = b[j]'(by omega) := by simpa using q
      refine ⟨j + 1, by rw [e2], rfl, ⟨by omega, ?_⟩, by show a.length - (j + 1) < a.length - j; omega⟩
      rw [List.take_succ_eq_append_getElem hlt, List.take_succ_eq_append_getElem (show j < b.length by omega), he, q]
  · have : j = a.length := by simp at h; omega
    subst this
    have : a = b := by rw [List.take_length] at he; rw [hl, List.take_length] at he; exact he
    simp [decO, decA, decTup, decMach, decCore, decTrap, decInstr, decPart, decGuest, decConf, decEvent, decVcpu, decStep, bytesS, boolS, eventsS, intsS, guestsS, vcpusS, rowS, castL, Option.bind_some, Option.map_some, Option.some.injEq, Nat.beq_refl, beq_self_eq_true, Bool.and_self, cond_true, cond_false, eq_self, this]
  
theorem c_ref05_Same : SpecOk EB 15 S_ref05_Same := spec_sigL ok_ref05_Same (n := 60) (fun (a, b, _) => fun _ => some (L_ref05_Same a b)) fun ⟨a, b, ⟨⟩⟩ h hok => a_ref05_Same a b (ok_bytes (okSL_head hok)) (ok_bytes (okSL_head (okSL_tail hok)))
end

/-! law18_ShadowDispatchedGuestIsConfined -/
@[reducible] def L_law18 (host : PMach) (v : PVcpu) (p : PPart) (alarm : Int) : LoopSpec where
  σ := Nat
  slots := [4, 6, 10, 12]
  keys := [4, 6, 10]
  vals := fun i => [.loc 0 0 0 1, .loc 1 0 0 1, .loc 2 0 0 1, .v (.int .i64 (i : Int))]
  blks := fun i => [.cells (machC host) 30, .cells (partC p) 57, .cells (machC (K.step (K.dispatch host v p alarm)).1) 30]
  inv := fun i => i ≤ host.mem.length
  mu := fun i => host.mem.length - i
theorem law18_at {host : PMach} {v : PVcpu} {p : PPart} {alarm : Int} {P : Nat → Prop} {i : Nat} {w : Int} (hw : w = (i : Int)) (hi : i ≤ host.mem.length) (hP : P i) : (L_law18 host v p alarm).at P
    [.loc 0 0 0 1, .loc 1 0 0 1, .loc 2 0 0 1, .v (.int .i64 w)]
    [.cells (machC host) 30, .cells (partC p) 57, .cells (machC (K.step (K.dispatch host v p alarm)).1) 30] := by
  subst hw
  exact ⟨i, rfl, rfl, hi, hP⟩
def S_law18_ShadowDispatchedGuestIsConfined : Spec := sig [.mach, .vcpu, .part, .i .u64] [.b] (fun (host, v, p, alarm, _) => true)
noncomputable def E_law18_ShadowDispatchedGuestIsConfined : Env := EB_0_1_2.adds [(26, S_law18_awake), (11, S_ref10_Few), (22, S_ref16_Few), (27, S_ref06_Fits), (28, S_shadow_Dispatch), (29, S_shadow_IsConfined), (14, S_ref06_Super), (12, S_step_Step), (15, S_ref05_Same)]

theorem ok_law18_ShadowDispatchedGuestIsConfined : EnvOk E_law18_ShadowDispatchedGuestIsConfined := okEB_0_1_2.adds (l := _) ⟨(up_to_0_1_2 c_law18_awake), (up_to_0_1_2 c_ref10_Few), (up_to_0_1_2 c_ref16_Few), (up_to_0_1_2 c_ref06_Fits), (up_to_0_1_2 c_shadow_Dispatch), (up_to_0_1_2 c_shadow_IsConfined), (up_to_0_1_2 c_ref06_Super), c_step_Step, (up_to_0_1_2 c_ref05_Same), trivial⟩

theorem t_law18_ShadowDispatchedGuestIsConfined (host : PMach) (v : PVcpu) (p : PPart) (alarm : Int) : evFL E_law18_ShadowDispatchedGuestIsConfined (fun _ => some (L_law18 host v p alarm)) 60 9 (encArgs [.mach, .vcpu, .part, .i .u64] (host, v, p, alarm, ())) = 
  Tree.letv (okO [AT.b]) true fun x0 =>
  (bif x0 then
    (Tree.letv (okO [AT.b]) (K.few host) fun x1 =>
    (bif x1 then
      (Tree.letv (okO [AT.b]) (K.vfew v) fun x2 =>
      (bif x2 then
        (Tree.letv (okO [AT.b]) (decide ((p.base + p.size) ≤ (2147483648 : Int))) fun x3 =>
        (bif x3 then
          (bif host.halted then
            (Tree.letv (okO [AT.b]) true fun x4 =>
            (bif x4 then
              (Tree.leaf (SV.b true))
            else
              (Tree.leaf (SV.b false))))
          else
            (Tree.letv (okO [AT.mach]) (K.dispatch host v p alarm) fun x4 =>
            (Tree.letv (okO [AT.b]) (K.confined x4 p) fun x5 =>
            (bif x5 then
              (Tree.letv (okO [AT.b]) (K.super x4.core) fun x6 =>
              (bif x6 then
                (Tree.leaf (SV.b false))
              else
                (bif (decide (And ((List.length x4.mem) ≤ 1099511627776) ((List.length x4.out) ≤ 1099511627776))) then
                  (Tree.letv (okO [AT.mach, AT.trap]) (K.step x4) fun x7 =>
                  (bif (decide (alarm ≤ host.time)) then
                    (bif (Bool.and (BEq.beq x7.snd.cause (6 : Int)) (Bool.and (BEq.beq x7.snd.tval (0 : Int)) true)) then
                      (Tree.letv (okO [AT.b]) (decide (x7.fst.mem = host.mem)) fun x8 =>
                      (bif x8 then
                        (bif (BEq.beq (List.getD x7.fst.core.csr 1 (0 : Int)) v.core.pc) then
                          (Tree.leaf (SV.b true))
                        else
                          (Tree.leaf (SV.b false)))
                      else
                        (Tree.leaf (SV.b false))))
                    else
                      (Tree.leaf (SV.b false)))
                  else
                    (bif (BEq.beq x7.snd.cause (6 : Int)) then
                      (Tree.leaf (SV.b false))
                    else
                      (bif (bne (Int.ofNat (List.length x7.fst.mem)) (Int.ofNat (List.length host.mem))) then
                        (Tree.leaf (SV.b false))
                      else
                        (Tree.loop 0 (L_law18 host v p alarm) [(SV.loc 0 0 0 1), (SV.loc 1 0 0 1), (SV.loc 2 0 0 1), (SV.v (Value.int IntKind.i64 (0 : Int)))] [(Blk.cells [(SV.arr IntKind.u32 16 host.core.regs), (SV.v (Value.int IntKind.u32 host.core.pc)), (SV.arr IntKind.u32 12 host.core.csr), (SV.rd ETy.u8 host.mem), (SV.v (Value.int IntKind.u64 host.time)), (SV.rd ETy.u8 host.out), (SV.v (Value.bool host.halted))] 30), (Blk.cells [(SV.v (Value.int IntKind.u32 p.base)), (SV.v (Value.int IntKind.u32 p.size))] 57), (Blk.cells [(SV.arr IntKind.u32 16 x7.fst.core.regs), (SV.v (Value.int IntKind.u32 x7.fst.core.pc)), (SV.arr IntKind.u32 12 x7.fst.core.csr), (SV.rd ETy.u8 x7.fst.mem), (SV.v (Value.int IntKind.u64 x7.fst.time)), (SV.rd ETy.u8 x7.fst.out), (SV.v (Value.bool x7.fst.halted))] 30)] fun (x8 : Nat) =>
                        (bif (decide ((Int.ofNat x8) < (Int.ofNat (List.length (K.step (K.dispatch host v p alarm)).fst.mem)))) then
                          (bif (inRange (Int.ofNat x8) (List.length (K.step (K.dispatch host v p alarm)).fst.mem)) then
                            (bif (inRange (Int.ofNat x8) (List.length host.mem)) then
                              (bif (bne (List.getD (K.step (K.dispatch host v p alarm)).fst.mem (Int.toNat (Int.ofNat x8)) (0 : Int)) (List.getD host.mem (Int.toNat (Int.ofNat x8)) (0 : Int))) then
                                (bif (decide ((Int.ofNat x8) < (IntKind.wrap IntKind.i64 p.base))) then
                                  (Tree.leaf (SV.b false))
                                else
                                  (bif (decide ((Int.ofNat x8) ≥ (IntKind.wrap IntKind.i64 ((IntKind.wrap IntKind.i64 p.base) + (IntKind.wrap IntKind.i64 p.size))))) then
                                    (Tree.leaf (SV.b false))
                                  else
                                    ((Tree.next 0 [(SV.loc 0 0 0 1), (SV.loc 1 0 0 1), (SV.loc 2 0 0 1), (SV.v (Value.int IntKind.i64 (IntKind.wrap IntKind.i64 ((Int.ofNat x8) + (1 : Int)))))] [(Blk.cells [(SV.arr IntKind.u32 16 host.core.regs), (SV.v (Value.int IntKind.u32 host.core.pc)), (SV.arr IntKind.u32 12 host.core.csr), (SV.rd ETy.u8 host.mem), (SV.v (Value.int IntKind.u64 host.time)), (SV.rd ETy.u8 host.out), (SV.v (Value.bool host.halted))] 30), (Blk.cells [(SV.v (Value.int IntKind.u32 p.base)), (SV.v (Value.int IntKind.u32 p.size))] 57), (Blk.cells [(SV.arr IntKind.u32 16 (K.step (K.dispatch host v p alarm)).fst.core.regs), (SV.v (Value.int IntKind.u32 (K.step (K.dispatch host v p alarm)).fst.core.pc)), (SV.arr IntKind.u32 12 (K.step (K.dispatch host v p alarm)).fst.core.csr), (SV.rd ETy.u8 (K.step (K.dispatch host v p alarm)).fst.mem), (SV.v (Value.int IntKind.u64 (K.step (K.dispatch host v p alarm)).fst.time)), (SV.rd ETy.u8 (K.step (K.dispatch host v p alarm)).fst.out), (SV.v (Value.bool (K.step (K.dispatch host v p alarm)).fst.halted))] 30)]))))
                              else
                                ((Tree.next 0 [(SV.loc 0 0 0 1), (SV.loc 1 0 0 1), (SV.loc 2 0 0 1), (SV.v (Value.int IntKind.i64 (IntKind.wrap IntKind.i64 ((Int.ofNat x8) + (1 : Int)))))] [(Blk.cells [(SV.arr IntKind.u32 16 host.core.regs), (SV.v (Value.int IntKind.u32 host.core.pc)), (SV.arr IntKind.u32 12 host.core.csr), (SV.rd ETy.u8 host.mem), (SV.v (Value.int IntKind.u64 host.time)), (SV.rd ETy.u8 host.out), (SV.v (Value.bool host.halted))] 30), (Blk.cells [(SV.v (Value.int IntKind.u32 p.base)), (SV.v (Value.int IntKind.u32 p.size))] 57), (Blk.cells [(SV.arr IntKind.u32 16 (K.step (K.dispatch host v p alarm)).fst.core.regs), (SV.v (Value.int IntKind.u32 (K.step (K.dispatch host v p alarm)).fst.core.pc)), (SV.arr IntKind.u32 12 (K.step (K.dispatch host v p alarm)).fst.core.csr), (SV.rd ETy.u8 (K.step (K.dispatch host v p alarm)).fst.mem), (SV.v (Value.int IntKind.u64 (K.step (K.dispatch host v p alarm)).fst.time)), (SV.rd ETy.u8 (K.step (K.dispatch host v p alarm)).fst.out), (SV.v (Value.bool (K.step (K.dispatch host v p alarm)).fst.halted))] 30)])))
                            else
                              (Tree.fail))
                          else
                            (Tree.fail))
                        else
                          (Tree.leaf (SV.b true))))))))
                else
                  (Tree.fail))))
            else
              (Tree.leaf (SV.b false))))))
        else
          (Tree.letv (okO [AT.b]) true fun x4 =>
          (bif x4 then
            (Tree.leaf (SV.b true))
          else
            (Tree.leaf (SV.b false))))))
      else
        (Tree.letv (okO [AT.b]) true fun x3 =>
        (bif x3 then
          (Tree.leaf (SV.b true))
        else
          (Tree.leaf (SV.b false))))))
    else
      (Tree.letv (okO [AT.b]) true fun x2 =>
      (bif x2 then
        (Tree.leaf (SV.b true))
      else
        (Tree.leaf (SV.b false))))))
  else
    (Tree.letv (okO [AT.b]) true fun x1 =>
    (bif x1 then
      (Tree.leaf (SV.b true))
    else
      (Tree.leaf (SV.b false))))) := by kernel_rfl
section
attribute [local irreducible] evF evFL
theorem a_law18_ShadowDispatchedGuestIsConfined (host : PMach) (v : PVcpu) (p : PPart) (alarm : Int) (ok_host : okMach host) (ok_v : okVcpu v) (ok_p : okPart p) (ok_alarm : okI .u64 alarm) : (evFL E_law18_ShadowDispatchedGuestIsConfined (fun _ => some (L_law18 host v p alarm)) 60 9 (encArgs [.mach, .vcpu, .part, .i .u64] (host, v, p, alarm, ()))).ends fun out_ => decO [.b] out_ = some (true) := by
  rw [t_law18_ShadowDispatchedGuestIsConfined, Tree.ends_holds]
  obtain ⟨p0, p1⟩ := okI_u32 ok_p.base
  obtain ⟨q0, q1⟩ := okI_u32 ok_p.size
  obtain ⟨a0, a1⟩ := okI_u64 ok_alarm
  obtain ⟨t0, t1⟩ := ok_v.core.csr.u32 (i := 5) (by omega)
  obtain ⟨u0, u1⟩ := ok_v.core.csr.u32 (i := 6) (by omega)
  have v0 := (okI_u32 ok_v.core.pc).1
  have hl := ok_host.core.csr.1
  have f5 : K.few host = true → host.mem.length ≤ 600 ∧ host.out.length ≤ 600 := fun h => by simpa only [K.few, Bool.and_eq_true, decide_eq_true_eq] using h
  have key := fun (h1 : p.base + p.size ≤ 2147483648) (h2 : host.halted = false) => And.intro (dispatch_facts (host := host) (v := v) (p := p) (alarm := alarm) hl p0 q0 h1 t0 u0 a0 a1) (dispatch_step (host := host) (v := v) (p := p) (alarm := alarm) hl p0 q0 h1 t0 u0 a0 a1 h2 v0)
  have w1 : IntKind.i64.wrap p.base = p.base := wrapI64 (by omega) (by omega)
  have w2 : IntKind.i64.wrap p.size = p.size := wrapI64 (by omega) (by omega)
  have w3 : IntKind.i64.wrap (p.base + p.size) = p.base + p.size := wrapI64 (by omega) (by omega)
  have w4 : ∀ x : Nat, x < host.mem.length → host.mem.length ≤ 600 → IntKind.i64.wrap ((x : Int) + 1) = ((x + 1 : Nat) : Int) := fun x h1 h2 => by rw [wrapI64 (by omega) (by omega)]; rfl
  have dm : (K.dispatch host v p alarm).mem = host.mem := rfl
  have dt : (K.dispatch host v p alarm).out = host.out := rfl
  simp only [Tree.holds_loop, Tree.holds_fork, Tree.holds_next, if_true, Tree.holds_cond, Tree.holds_letv, Tree.holds_leaf, Tree.holds_fail, decO, decA, decTup, decMach, decCore, decTrap, decInstr, decPart, decGuest, decConf, decEvent, decVcpu, decStep, bytesS, boolS, eventsS, intsS, guestsS, vcpusS, rowS, castL, Option.bind_some, Option.map_some, Option.some.injEq, Nat.beq_refl, beq_self_eq_true, Bool.and_self, cond_true, cond_false, eq_self, beq_iff_eq, beq_eq_false_iff_ne, bne_iff_ne, bne_eq_false_iff_eq, ne_eq, decide_eq_true_eq, decide_eq_false_iff_not, ble_true, ble_false, inRange_iff, inRange_false, Int.ofNat_eq_natCast, Int.toNat_natCast, w1, w2, w3, dm, dt]
  repeat' (first | refine drop_ok ?_ | intro _ | with_reducible apply And.intro)
  all_goals first | trivial | skip
  all_goals
    obtain ⟨⟨d1, d2, d3, d4, d5, d6, d7⟩, ⟨g1, g2, g3, g4⟩⟩ := key (by assumption) (by assumption)
    obtain ⟨l1, l2⟩ := f5 (by assumption)
    first
      | (exfalso; omega)
      | exact law18_at (i := 0) rfl (Nat.zero_le _) trivial
      | exact law18_at (w4 _ (by omega) l1) (by omega) (Nat.sub_lt_sub_left (by omega) (Nat.lt_succ_self _))
      | (refine absurd (g4 _ ?_) (by assumption); omega)
      | exact absurd (by assumption) (g2 (by assumption))
      | exact absurd (g1 (by assumption)).2.1 (by assumption)
      | exact absurd (g1 (by assumption)).2.2 (by assumption)
      | (rename_i hq; rw [(g1 (by assumption)).1] at hq; exact Bool.noConfusion hq)
      | (rename_i hq; rw [d4] at hq; exact Bool.noConfusion hq)
      | (rename_i hq; rw [d1] at hq; exact Bool.noConfusion hq)
      | trace_state
  
theorem c_law18_ShadowDispatchedGuestIsConfined : SpecOk EB_0_1_2 9 S_law18_ShadowDispatchedGuestIsConfined := spec_sigL ok_law18_ShadowDispatchedGuestIsConfined (n := 60) (fun (host, v, p, alarm, _) => fun _ => some (L_law18 host v p alarm)) fun ⟨host, v, p, alarm, ⟨⟩⟩ h hok => a_law18_ShadowDispatchedGuestIsConfined host v p alarm (ok_mach (okSL_head hok)) (ok_vcpu (okSL_head (okSL_tail hok))) (ok_part (okSL_head (okSL_tail (okSL_tail hok)))) (ok_int (okSL_head (okSL_tail (okSL_tail (okSL_tail hok)))))
end


end Go.Proofs.YtjnigggpijfdeaaDoor
