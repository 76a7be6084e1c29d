/- Contracts of functions, by evaluation (nothing is claimed here). -/
import Derived.Test.YtchljgmcempedaaGreatDoorSh38
import Derived.KernelRfl
import Derived.Test.YtchljgmcempedaaGreatDoorProg
import Derived.Test.YtchljgmcempedaaGreatDoorReplayMatchesReferenceB4
set_option linter.unusedVariables false
set_option linter.unusedSimpArgs false
set_option maxRecDepth 100000
set_option maxHeartbeats 1000000
namespace Go.Proofs.YtchljgmcempedaaGreatDoor
open Go
/-! ref26_Replay -/
@[reducible] def L_Replay26 (g : PGuest) (n : Int) (log : List PEvent) : LoopSpec where
  σ := Nat
  slots := [1, 2, 6, 9, 10, 11]
  keys := [6, 9]
  vals := fun i => [.v (.int .i64 n), .rd .event log, .loc 0 0 0 1, .loc 1 0 0 1, .v (.int .i64 (K.seenR (K.bareG g) log i : Int)), .v (.int .i64 (i : Int))]
  blks := fun i => [.cells [.arr .u32 16 [0, 0, 0, 0, 0, 0, 0, 0, 0, 0, 0, 0, 0, 0, 0, 0], .v (.int .u32 0), .arr .u32 12 [0, 0, 0, 0, 0, 0, 0, 0, 0, 0, 0, 0], .v (.slice none 0 0), .v (.int .u64 0), .v (.slice none 0 0), .b false] 30, .cells (machC (K.repS (K.bareG g) log i).1) 30]
  inv := fun i => i ≤ n.toNat ∧ K.repEnd (K.bareG g) log (n.toNat - i) i = K.repN (K.bareG g) n log ∧ (K.repS (K.bareG g) log i).1.mem.length = g.part.size.toNat ∧ (K.repS (K.bareG g) log i).1.out.length ≤ i
  mu := fun i => n.toNat - i
def S_ref26_Replay : Spec := sig [.guest, .i .i64, .rd .event] [.mach, .i .i64, .b] (fun (g, n, log, _) => K.replay (K.bareG g) n log) (pre := fun (g, n, log, _) => decide (0 ≤ n ∧ n ≤ 1073741824 ∧ (g.mem.length : Int) ≤ g.part.size))
noncomputable def E_ref26_Replay : Env := EB.adds [(23, S_ref15_Alone), (38, S_ref26_one)]

theorem ok_ref26_Replay : EnvOk E_ref26_Replay := okEB.adds (l := _) ⟨c_ref15_Alone, c_ref26_one, trivial⟩
theorem t_ref26_Replay (g : PGuest) (n : Int) (log : List PEvent) : evFL E_ref26_Replay (fun _ => some (L_Replay26 g n log)) 60 22 (encArgs [.guest, .i .i64, .rd .event] (g, n, log, ())) = bif (decide ((Int.ofNat (List.length g.mem)) ≤ g.part.size)) then (Tree.letv (okO [AT.mach]) (K.bareG g) fun x0 => (Tree.loop 0 (L_Replay26 g n log) [(SV.v (Value.int IntKind.i64 n)), (SV.rd ETy.event log), (SV.loc 0 0 0 1), (SV.loc 1 0 0 1), (SV.v (Value.int IntKind.i64 (0 : Int))), (SV.v (Value.int IntKind.i64 (0 : Int)))] [(Blk.cells [(SV.arr IntKind.u32 16 [(0 : Int), (0 : Int), (0 : Int), (0 : Int), (0 : Int), (0 : Int), (0 : Int), (0 : Int), (0 : Int), (0 : Int), (0 : Int), (0 : Int), (0 : Int), (0 : Int), (0 : Int), (0 : Int)]), (SV.v (Value.int IntKind.u32 (0 : Int))), (SV.arr IntKind.u32 12 [(0 : Int), (0 : Int), (0 : Int), (0 : Int), (0 : Int), (0 : Int), (0 : Int), (0 : Int), (0 : Int), (0 : Int), (0 : Int), (0 : Int)]), (SV.v (Value.slice Option.none 0 0)), (SV.v (Value.int IntKind.u64 (0 : Int))), (SV.v (Value.slice Option.none 0 0)), (SV.b false)] 30), (Blk.cells [(SV.arr IntKind.u32 16 x0.core.regs), (SV.v (Value.int IntKind.u32 x0.core.pc)), (SV.arr IntKind.u32 12 x0.core.csr), (SV.rd ETy.u8 x0.mem), (SV.v (Value.int IntKind.u64 x0.time)), (SV.rd ETy.u8 x0.out), (SV.v (Value.bool x0.halted))] 30)] fun (x1 : Nat) => (bif (decide ((Int.ofNat x1) < n)) then (bif (decide ((Int.ofNat (K.seenR (K.bareG g) log x1)) < (Int.ofNat (List.length log)))) then (bif (inRange (Int.ofNat
 (K.seenR (K.bareG g) log x1)) (List.length log)) then (bif (BEq.beq (List.getD log (Int.toNat (Int.ofNat (K.seenR (K.bareG g) log x1))) (PEvent.mk (0 : Int) (0 : Int) (0 : Int))).at_ (Int.ofNat x1)) then (bif (inRange (Int.ofNat (K.seenR (K.bareG g) log x1)) (List.length log)) then (bif (decide (And ((List.length (K.repS (K.bareG g) log x1).fst.mem) ≤ 1099511627776) ((List.length (K.repS (K.bareG g) log x1).fst.out) ≤ 1099511627776))) then (Tree.letv (okO [AT.mach, AT.b]) (K.oneR (K.repS (K.bareG g) log x1).fst (List.getD log (Int.toNat (Int.ofNat (K.seenR (K.bareG g) log x1))) (PEvent.mk (0 : Int) (0 : Int) (0 : Int))) true) fun x2 => (bif x2.snd then ((Tree.next 0 [(SV.v (Value.int IntKind.i64 n)), (SV.rd ETy.event log), (SV.loc 0 0 0 1), (SV.loc 1 0 0 1), (SV.v (Value.int IntKind.i64 (IntKind.wrap IntKind.i64 ((Int.ofNat (K.seenR (K.bareG g) log x1)) + (1 : Int))))), (SV.v (Value.int IntKind.i64 (IntKind.wrap IntKind.i64 ((Int.ofNat x1) + (1 : Int)))))] [(Blk.cells [(SV.arr IntKind.u32 16 [(0 : Int), (0 : Int), (0 : Int), (0 : Int), (0 : Int), (0 : Int), (0 : Int), (0 : Int), (0 : Int), (0 : Int), (0 : Int), (0 : Int), (0 : Int), (0 : Int), (0 : Int), (0 : Int)]), (SV.v (Value.int IntKind.u32 (0 : Int))), (SV.arr IntKind.u32 12 [(0 : Int), (0 : Int), (0 : Int), (0 : Int), (0 : Int), (0 : Int), (0 : Int), (0 : Int), (0 : Int), (0 : Int), (0 : Int), (0 : Int)]), (SV.v (Value.slice Option.none 0 0)), (SV.v (Value.int IntKind.u64 (0 : Int))), (SV.v (Value.slice Option.none 0
 0)), (SV.b false)] 30), (Blk.cells [(SV.arr IntKind.u32 16 x2.fst.core.regs), (SV.v (Value.int IntKind.u32 x2.fst.core.pc)), (SV.arr IntKind.u32 12 x2.fst.core.csr), (SV.rd ETy.u8 x2.fst.mem), (SV.v (Value.int IntKind.u64 x2.fst.time)), (SV.rd ETy.u8 x2.fst.out), (SV.v (Value.bool x2.fst.halted))] 30)])) else (Tree.leaf (SV.tup [(SV.agg [(SV.arr IntKind.u32 16 (K.repS (K.bareG g) log x1).fst.core.regs), (SV.v (Value.int IntKind.u32 (K.repS (K.bareG g) log x1).fst.core.pc)), (SV.arr IntKind.u32 12 (K.repS (K.bareG g) log x1).fst.core.csr), (SV.rd ETy.u8 (K.repS (K.bareG g) log x1).fst.mem), (SV.v (Value.int IntKind.u64 (K.repS (K.bareG g) log x1).fst.time)), (SV.rd ETy.u8 (K.repS (K.bareG g) log x1).fst.out), (SV.v (Value.bool (K.repS (K.bareG g) log x1).fst.halted))]), (SV.v (Value.int IntKind.i64 (Int.ofNat x1))), (SV.b false)])))) else (Tree.fail)) else (Tree.fail)) else (bif (decide (And ((List.length (K.repS (K.bareG g) log x1).fst.mem) ≤ 1099511627776) ((List.length (K.repS (K.bareG g) log x1).fst.out) ≤ 1099511627776))) then (Tree.letv (okO [AT.mach, AT.b]) (K.oneR (K.repS (K.bareG g) log x1).fst (PEvent.mk (0 : Int) (0 : Int) (0 : Int)) false) fun x2 => (bif x2.snd then ((Tree.next 0 [(SV.v (Value.int IntKind.i64 n)), (SV.rd ETy.event log), (SV.loc 0 0 0 1), (SV.loc 1 0 0 1), (SV.v (Value.int IntKind.i64 (Int.ofNat (K.seenR (K.bareG g) log x1)))), (SV.v (Value.int IntKind.i64 (IntKind.wrap IntKind.i64 ((Int.ofNat x1) + (1 : Int)))))] [(Blk.cells [(SV.arr IntKind.u32 16
 [(0 : Int), (0 : Int), (0 : Int), (0 : Int), (0 : Int), (0 : Int), (0 : Int), (0 : Int), (0 : Int), (0 : Int), (0 : Int), (0 : Int), (0 : Int), (0 : Int), (0 : Int), (0 : Int)]), (SV.v (Value.int IntKind.u32 (0 : Int))), (SV.arr IntKind.u32 12 [(0 : Int), (0 : Int), (0 : Int), (0 : Int), (0 : Int), (0 : Int), (0 : Int), (0 : Int), (0 : Int), (0 : Int), (0 : Int), (0 : Int)]), (SV.v (Value.slice Option.none 0 0)), (SV.v (Value.int IntKind.u64 (0 : Int))), (SV.v (Value.slice Option.none 0 0)), (SV.b false)] 30), (Blk.cells [(SV.arr IntKind.u32 16 x2.fst.core.regs), (SV.v (Value.int IntKind.u32 x2.fst.core.pc)), (SV.arr IntKind.u32 12 x2.fst.core.csr), (SV.rd ETy.u8 x2.fst.mem), (SV.v (Value.int IntKind.u64 x2.fst.time)), (SV.rd ETy.u8 x2.fst.out), (SV.v (Value.bool x2.fst.halted))] 30)])) else (Tree.leaf (SV.tup [(SV.agg [(SV.arr IntKind.u32 16 (K.repS (K.bareG g) log x1).fst.core.regs), (SV.v (Value.int IntKind.u32 (K.repS (K.bareG g) log x1).fst.core.pc)), (SV.arr IntKind.u32 12 (K.repS (K.bareG g) log x1).fst.core.csr), (SV.rd ETy.u8 (K.repS (K.bareG g) log x1).fst.mem), (SV.v (Value.int IntKind.u64 (K.repS (K.bareG g) log x1).fst.time)), (SV.rd ETy.u8 (K.repS (K.bareG g) log x1).fst.out), (SV.v (Value.bool (K.repS (K.bareG g) log x1).fst.halted))]), (SV.v (Value.int IntKind.i64 (Int.ofNat x1))), (SV.b false)])))) else (Tree.fail))) else (Tree.fail)) else (bif (decide (And ((List.length (K.repS (K.bareG g) log x1).fst.mem) ≤ 1099511627776) ((List.length (K.repS (K.bareG g)
 log x1).fst.out) ≤ 1099511627776))) then (Tree.letv (okO [AT.mach, AT.b]) (K.oneR (K.repS (K.bareG g) log x1).fst (PEvent.mk (0 : Int) (0 : Int) (0 : Int)) false) fun x2 => (bif x2.snd then ((Tree.next 0 [(SV.v (Value.int IntKind.i64 n)), (SV.rd ETy.event log), (SV.loc 0 0 0 1), (SV.loc 1 0 0 1), (SV.v (Value.int IntKind.i64 (Int.ofNat (K.seenR (K.bareG g) log x1)))), (SV.v (Value.int IntKind.i64 (IntKind.wrap IntKind.i64 ((Int.ofNat x1) + (1 : Int)))))] [(Blk.cells [(SV.arr IntKind.u32 16 [(0 : Int), (0 : Int), (0 : Int), (0 : Int), (0 : Int), (0 : Int), (0 : Int), (0 : Int), (0 : Int), (0 : Int), (0 : Int), (0 : Int), (0 : Int), (0 : Int), (0 : Int), (0 : Int)]), (SV.v (Value.int IntKind.u32 (0 : Int))), (SV.arr IntKind.u32 12 [(0 : Int), (0 : Int), (0 : Int), (0 : Int), (0 : Int), (0 : Int), (0 : Int), (0 : Int), (0 : Int), (0 : Int), (0 : Int), (0 : Int)]), (SV.v (Value.slice Option.none 0 0)), (SV.v (Value.int IntKind.u64 (0 : Int))), (SV.v (Value.slice Option.none 0 0)), (SV.b false)] 30), (Blk.cells [(SV.arr IntKind.u32 16 x2.fst.core.regs), (SV.v (Value.int IntKind.u32 x2.fst.core.pc)), (SV.arr IntKind.u32 12 x2.fst.core.csr), (SV.rd ETy.u8 x2.fst.mem), (SV.v (Value.int IntKind.u64 x2.fst.time)), (SV.rd ETy.u8 x2.fst.out), (SV.v (Value.bool x2.fst.halted))] 30)])) else (Tree.leaf (SV.tup [(SV.agg [(SV.arr IntKind.u32 16 (K.repS (K.bareG g) log x1).fst.core.regs), (SV.v (Value.int IntKind.u32 (K.repS (K.bareG g) log x1).fst.core.pc)), (SV.arr IntKind.u32 12 (K.repS
 (K.bareG g) log x1).fst.core.csr), (SV.rd ETy.u8 (K.repS (K.bareG g) log x1).fst.mem), (SV.v (Value.int IntKind.u64 (K.repS (K.bareG g) log x1).fst.time)), (SV.rd ETy.u8 (K.repS (K.bareG g) log x1).fst.out), (SV.v (Value.bool (K.repS (K.bareG g) log x1).fst.halted))]), (SV.v (Value.int IntKind.i64 (Int.ofNat x1))), (SV.b false)])))) else (Tree.fail))) else (bif (BEq.beq (Int.ofNat (K.seenR (K.bareG g) log x1)) (Int.ofNat (List.length log))) then (Tree.leaf (SV.tup [(SV.agg [(SV.arr IntKind.u32 16 (K.repS (K.bareG g) log x1).fst.core.regs), (SV.v (Value.int IntKind.u32 (K.repS (K.bareG g) log x1).fst.core.pc)), (SV.arr IntKind.u32 12 (K.repS (K.bareG g) log x1).fst.core.csr), (SV.rd ETy.u8 (K.repS (K.bareG g) log x1).fst.mem), (SV.v (Value.int IntKind.u64 (K.repS (K.bareG g) log x1).fst.time)), (SV.rd ETy.u8 (K.repS (K.bareG g) log x1).fst.out), (SV.v (Value.bool (K.repS (K.bareG g) log x1).fst.halted))]), (SV.v (Value.int IntKind.i64 n)), (SV.b true)])) else (Tree.leaf (SV.tup [(SV.agg [(SV.arr IntKind.u32 16 (K.repS (K.bareG g) log x1).fst.core.regs), (SV.v (Value.int IntKind.u32 (K.repS (K.bareG g) log x1).fst.core.pc)), (SV.arr IntKind.u32 12 (K.repS (K.bareG g) log x1).fst.core.csr), (SV.rd ETy.u8 (K.repS (K.bareG g) log x1).fst.mem), (SV.v (Value.int IntKind.u64 (K.repS (K.bareG g) log x1).fst.time)), (SV.rd ETy.u8 (K.repS (K.bareG g) log x1).fst.out), (SV.v (Value.bool (K.repS (K.bareG g) log x1).fst.halted))]), (SV.v (Value.int IntKind.i64 n)), (SV.b false)])))))) else
 (Tree.fail) := by kernel_rfl
section
attribute [local irreducible] evF evFL evFLs evFP
theorem a_ref26_Replay (g : PGuest) (n : Int) (log : List PEvent) (hpre : 0 ≤ n ∧ n ≤ 1073741824 ∧ (g.mem.length : Int) ≤ g.part.size) (ok_g : okGuest g) (ok_n : okI .i64 n) (ok_log : okEvents log) : (evFL E_ref26_Replay (fun _ => some (L_Replay26 g n log)) 60 22 (encArgs [.guest, .i .i64, .rd .event] (g, n, log, ()))).ends fun out_ => decO [.mach, .i .i64, .b] out_ = some (K.replay (K.bareG g) n log) := by
  rw [t_ref26_Replay, Tree.ends_holds]
  obtain ⟨hn0, hn, hg⟩ := hpre
  obtain ⟨s0, s1⟩ := okI_u32 ok_g.part.size
  have hlim : log.length ≤ 140737488355328 := ok_log.1
  simp only [Int.ofNat_eq_natCast, decide_eq_true hg, cond_true, Tree.holds_letv]
  intro _
  rw [Tree.holds_loop]
  refine ⟨⟨(0 : Nat), rfl, rfl, ⟨Nat.zero_le _, rfl, (bareG_lens g).1, Nat.le_of_eq (bareG_lens g).2⟩, trivial⟩, fun (i : Nat) hx => ?_⟩
  obtain ⟨i1, i2, i3, i4⟩ := hx
  have i1 : i ≤ n.toNat := i1
  have i2 : K.repEnd (K.bareG g) log (n.toNat - i) i = K.repN (K.bareG g) n log := i2
  have i3 : (K.repS (K.bareG g) log i).1.mem.length = g.part.size.toNat := i3
  have i4 : (K.repS (K.bareG g) log i).1.out.length ≤ i := i4
  have w1 : IntKind.i64.wrap ((i : Int) + 1) = ((i + 1 : Nat) : Int) := by rw [wrapI64 (by omega) (by omega)]; rfl
  have hsl := (seenR_drop (K.bareG g) log i).2
  have w2 : IntKind.i64.wrap ((K.seenR (K.bareG g) log i : Int) + 1) = ((K.seenR (K.bareG g) log i + 1 : Nat) : Int) := by rw [wrapI64 (by omega) (by omega)]; rfl
  have hpre : decide ((K.repS (K.bareG g) log i).1.mem.length ≤ 1099511627776 ∧ (K.repS (K.bareG g) log i).1.out.length ≤ 1099511627776) = true := decide_eq_true ⟨by omega, by omega⟩
  have hend := fun q => replay_end i2 i1 q
  have hbad := fun q1 q2 => replay_bad i2 q1 q2
  have hev : (K.seenR (K.bareG g) log i : Int) < (log.length : Int) → (log.getD (K.seenR (K.bareG g) log i) ⟨0, 0, 0⟩).at_ = (i : Int) → K.isEv (K.repS (K.bareG g) log i) (i : Int) = true := fun a b => (isEv_seen _ _ _).2 ⟨by omega, b⟩
  have hne : ¬ ((K.seenR (K.bareG g) log i : Int) < (log.length : Int) ∧ (log.getD (K.seenR (K.bareG g) log i) ⟨0, 0, 0⟩).at_ = (i : Int)) → K.isEv (K.repS (K.bareG g) log i) (i : Int) = false := fun q => by
    cases hq : K.isEv (K.repS (K.bareG g) log i) (i : Int) with
    | false => rfl
    | true =>
      have := (isEv_seen _ _ _).1 hq
      exact absurd ⟨by omega, this.2⟩ q
  have hgd : (K.repS (K.bareG g) log i).2.getD 0 ⟨0, 0, 0⟩ = log.getD (K.seenR (K.bareG g) log i) ⟨0, 0, 0⟩ := by
    rw [(seenR_drop (K.bareG g) log i).1]
    simp [List.getD_eq_getElem?_getD, List.getElem?_drop]
  have hl2 : ((K.repS (K.bareG g) log i).2.length : Int) = (log.length : Int) - (K.seenR (K.bareG g) log i : Int) := by
    rw [(seenR_drop (K.bareG g) log i).1, List.length_drop]; omega
  have hni : ¬ (i : Int) < n → n = (i : Int) := fun q => by omega
  have hT : ¬ (i : Int) < n → (K.seenR (K.bareG g) log i : Int) = (log.length : Int) → ((K.repS (K.bareG g) log i).1, n, true) = K.replay (K.bareG g) n log := fun q1 q2 => by
    rw [hend q1, decide_eq_true (by omega)]
    exact Prod.ext rfl (Prod.ext (hni q1) rfl)
  have hF : ¬ (i : Int) < n → ¬ (K.seenR (K.bareG g) log i : Int) = (log.length : Int) → ((K.repS (K.bareG g) log i).1, n, false) = K.replay (K.bareG g) n log := fun q1 q2 => by
    rw [hend q1, decide_eq_false (by omega)]
    exact Prod.ext rfl (Prod.ext (hni q1) rfl)
  have oE : K.isEv (K.repS (K.bareG g) log i) (i : Int) = true → K.goodR (K.repS (K.bareG g) log i) (i : Int) = (K.oneR (K.repS (K.bareG g) log i).1 (log.getD (K.seenR (K.bareG g) log i) ⟨0, 0, 0⟩) true).2 ∧ (K.goodR (K.repS (K.bareG g) log i) (i : Int) = true → (K.repS (K.bareG g) log (i + 1)).1 = (K.oneR (K.repS (K.bareG g) log i).1 (log.getD (K.seenR (K.bareG g) log i) ⟨0, 0, 0⟩) true).1) ∧ K.seenR (K.bareG g) log (i + 1) = K.seenR (K.bareG g) log i + 1 := fun q => by
    refine ⟨?_, fun hg => ?_, by show (if _ then _ else _) = _; rw [if_pos q]⟩
    · unfold K.goodR K.oneR
      rw [if_pos q, hgd]
      cases (K.repS (K.bareG g) log i).1.halted <;> rfl
    · have hh : (K.repS (K.bareG g) log i).1.halted = false := by
        unfold K.goodR at hg
        cases hq : (K.repS (K.bareG g) log i).1.halted with
        | false => rfl
        | true => rw [hq] at hg; cases hg
      show (K.nxR _ _).1 = _
      unfold K.nxR K.oneR
      rw [if_pos q, hgd, if_neg (by rw [hh]; simp), if_pos rfl]
  have oP : K.isEv (K.repS (K.bareG g) log i) (i : Int) = false → K.goodR (K.repS (K.bareG g) log i) (i : Int) = (K.oneR (K.repS (K.bareG g) log i).1 ⟨0, 0, 0⟩ false).2 ∧ (K.goodR (K.repS (K.bareG g) log i) (i : Int) = true → (K.repS (K.bareG g) log (i + 1)).1 = (K.oneR (K.repS (K.bareG g) log i).1 ⟨0, 0, 0⟩ false).1) ∧ K.seenR (K.bareG g) log (i + 1) = K.seenR (K.bareG g) log i := fun q => by
    refine ⟨?_, fun hg => ?_, by show (if _ then _ else _) = _; rw [if_neg (by rw [q]; simp)]⟩
    · unfold K.goodR K.oneR
      rw [if_neg (by rw [q]; simp)]
      cases (K.repS (K.bareG g) log i).1.halted <;> rfl
    · have hh : (K.repS (K.bareG g) log i).1.halted = false := by
        unfold K.goodR at hg
        cases hq : (K.repS (K.bareG g) log i).1.halted with
        | false => rfl
        | true => rw [hq] at hg; cases hg
      show (K.nxR _ _).1 = _
      unfold K.nxR K.oneR
      rw [if_neg (by rw [q]; simp), if_neg (by rw [hh]; simp), if_neg (by simp)]
  have hnext : ∀ (m' : PMach) (k' : Nat), (K.repS (K.bareG g) log (i + 1)).1 = m' → K.seenR (K.bareG g) log (i + 1) = k' → (i : Int) < n → K.goodR (K.repS (K.bareG g) log i) (i : Int) = true → (L_Replay26 g n log).at (fun y => (L_Replay26 g n log).mu y < (L_Replay26 g n log).mu i) [.v (.int .i64 n), .rd .event log, .loc 0 0 0 1, .loc 1 0 0 1, .v (.int .i64 (k' : Int)), .v (.int .i64 ((i + 1 : Nat) : Int))] [.cells [.arr .u32 16 [0, 0, 0, 0, 0, 0, 0, 0, 0, 0, 0, 0, 0, 0, 0, 0], .v (.int .u32 0), .arr .u32 12 [0, 0, 0, 0, 0, 0, 0, 0, 0, 0, 0, 0], .v (.slice none 0 0), .v (.int .u64 0), .v (.slice none 0 0), .b false] 30, .cells (machC m') 30] := fun m' k' e1 e2 q1 q2 => by
    have h := nxR_lens (K.repS (K.bareG g) log i) (i : Int)
    subst e1 e2
    refine ⟨i + 1, rfl, rfl, ⟨by show i + 1 ≤ n.toNat; omega, replay_next i2 q1 q2, ?_, ?_⟩, by show n.toNat - (i + 1) < n.toNat - i; omega⟩
    · show (K.nxR (K.repS (K.bareG g) log i) (i : Int)).1.mem.length = _; omega
    · show (K.nxR (K.repS (K.bareG g) log i) (i : Int)).1.out.length ≤ _; omega
  simp only [hpre, cond_true, Tree.holds_loop, Tree.holds_fork, Tree.holds_next, if_true, Tree.holds_cond, Tree.holds_letv, Tree.holds_leaf, Tree.holds_fail, decO, decA, decTup, decMach, decCore, decTrap, decInstr, decPart, decGuest, decConf, decEvent, decVcpu, decStep, bytesS, boolS, eventsS, intsS, guestsS, vcpusS, rowS, castL, Option.bind_some, Option.map_some, Option.some.injEq, Nat.beq_refl, beq_self_eq_true, Bool.and_self, cond_true, cond_false, eq_self, beq_iff_eq, beq_eq_false_iff_ne, bne_iff_ne, bne_eq_false_iff_eq, ne_eq, decide_eq_true_eq, decide_eq_false_iff_not, ble_true, ble_false, inRange_iff, inRange_false, Int.ofNat_eq_natCast, Int.toNat_natCast, w1, w2]
  by_cases hiv : (K.seenR (K.bareG g) log i : Int) < (log.length : Int) ∧ (log.getD (K.seenR (K.bareG g) log i) ⟨0, 0, 0⟩).at_ = (i : Int)
  · obtain ⟨o1, o2, o3⟩ := oE (hev hiv.1 hiv.2)
    repeat' (first | refine drop_ok ?_ | intro _ | with_reducible apply And.intro)
    all_goals first
      | omega
      | exact hT (by assumption) (by assumption)
      | exact hF (by assumption) (by assumption)
      | exact (hbad (by assumption) (o1.trans (by assumption))).symm
      | exact hnext _ _ (o2 (o1.trans (by assumption))) o3 (by assumption) (o1.trans (by assumption))
      | (exfalso; rename_i q; exact q hiv.1)
      | (exfalso; rename_i q _; exact q hiv.1)
      | (exfalso; rename_i q; exact q hiv.2)
      | (exfalso; rename_i q _ _; exact q hiv.1)
      | (exfalso; rename_i q _; exact q hiv.2)
      | (exfalso; rename_i q _ _; exact q hiv.2)
      | trace_state
  · obtain ⟨o1, o2, o3⟩ := oP (hne hiv)
    repeat' (first | refine drop_ok ?_ | intro _ | with_reducible apply And.intro)
    all_goals first
      | omega
      | exact hT (by assumption) (by assumption)
      | exact hF (by assumption) (by assumption)
      | exact (hbad (by assumption) (o1.trans (by assumption))).symm
      | exact hnext _ _ (o2 (o1.trans (by assumption))) o3 (by assumption) (o1.trans (by assumption))
      | (exfalso; exact hiv ⟨by assumption, by assumption⟩)
      | trace_state
  
theorem c_ref26_Replay : SpecOk EB 22 S_ref26_Replay := spec_sigL ok_ref26_Replay (n := 60) (fun (g, n, log, _) => fun _ => some (L_Replay26 g n log)) fun ⟨g, n, log, ⟨⟩⟩ h hok => a_ref26_Replay g n log (of_decide_eq_true h) (ok_guest (okSL_head hok)) (ok_int (okSL_head (okSL_tail hok))) (ok_events (okSL_head (okSL_tail (okSL_tail hok))))
end

/-! ref05_Same -/
@[reducible] def L_ref05_Same (a b : List Int) : LoopSpec where
  σ := Nat
  slots := [0, 1, 4, 5]
  keys := []
  vals := fun j => [.rd .u8 a, .rd .u8 b, .b false, .v (.int .i64 (j : Int))]
  blks := fun _ => []
  inv := fun j => j ≤ a.length ∧ a.take j = b.take j
  mu := fun j => a.length - j
def S_ref05_Same : Spec := sig [.rd .u8, .rd .u8] [.b] (fun (a, b, _) => decide (a = b))
noncomputable def E_ref05_Same : Env := EB.adds []

theorem ok_ref05_Same : EnvOk E_ref05_Same := okEB.adds (l := _) trivial
theorem t_ref05_Same (a : List Int) (b : List Int) : evFL E_ref05_Same (fun _ => some (L_ref05_Same a b)) 60 28 (encArgs [.rd .u8, .rd .u8] (a, b, ())) = bif (bne (Int.ofNat (List.length a)) (Int.ofNat (List.length b))) then (Tree.leaf (SV.b false)) else (Tree.loop 0 (L_ref05_Same a b) [(SV.rd ETy.u8 a), (SV.rd ETy.u8 b), (SV.b false), (SV.v (Value.int IntKind.i64 (0 : Int)))] [] fun (x0 : Nat) => (bif (decide ((Int.ofNat x0) < (Int.ofNat (List.length a)))) then (bif (inRange (Int.ofNat x0) (List.length a)) then (bif (inRange (Int.ofNat x0) (List.length b)) then (bif (bne (List.getD a (Int.toNat (Int.ofNat x0)) (0 : Int)) (List.getD b (Int.toNat (Int.ofNat x0)) (0 : Int))) then (Tree.leaf (SV.b false)) else ((Tree.next 0 [(SV.rd ETy.u8 a), (SV.rd ETy.u8 b), (SV.b false), (SV.v (Value.int IntKind.i64 (IntKind.wrap IntKind.i64 ((Int.ofNat x0) + (1 : Int)))))] []))) else (Tree.fail)) else (Tree.fail)) else (Tree.leaf (SV.b true)))) := by kernel_rfl
section
attribute [local irreducible] evF evFL evFLs evFP
theorem a_ref05_Same (a : List Int) (b : List Int) (ok_a : okBytes a) (ok_b : okBytes b) : (evFL E_ref05_Same (fun _ => some (L_ref05_Same a b)) 60 28 (encArgs [.rd .u8, .rd .u8] (a, b, ()))).ends fun out_ => decO [.b] out_ = some (decide (a = b)) := by
  rw [t_ref05_Same, Tree.ends_holds]
  simp only [Tree.holds_cond, Tree.holds_leaf, Tree.holds_loop]
  refine ⟨fun h => ?_, fun h => ?_⟩
  · have h : ¬ ((a.length : Int) = (b.length : Int)) := by simpa using h
    have : a ≠ b := fun e => h (by rw [e])
    simp [decO, decA, decTup, decMach, decCore, decTrap, decInstr, decPart, decGuest, decConf, decEvent, decVcpu, decStep, bytesS, boolS, eventsS, intsS, guestsS, vcpusS, rowS, castL, Option.bind_some, Option.map_some, Option.some.injEq, Nat.beq_refl, beq_self_eq_true, Bool.and_self, cond_true, cond_false, eq_self, this]
  have hl : (a.length : Int) = (b.length : Int) := by simpa using h
  have hl : a.length = b.length := by omega
  have hlim : a.length ≤ 140737488355328 := ok_a.1
  refine ⟨⟨(0 : Nat), rfl, rfl, ⟨Nat.zero_le _, rfl⟩, trivial⟩, fun (j : Nat) ⟨hj, he⟩ => ?_⟩
  simp only [Tree.holds_loop, Tree.holds_fork, Tree.holds_next, if_true, Tree.holds_cond, Tree.holds_letv, Tree.holds_leaf, Tree.holds_fail]
  refine ⟨fun h => ?_, fun h => ?_⟩
  · have hlt : j < a.length := by simpa using h
    have r1 : inRange (j : Int) a.length = true := inRange_iff.2 ⟨by omega, by omega⟩
    have r2 : inRange (j : Int) b.length = true := inRange_iff.2 ⟨by omega, by omega⟩
    have e2 : IntKind.i64.wrap ((j : Int) + 1) = ((j + 1 : Nat) : Int) := by rw [wrapI64 (by omega) (by omega)]; rfl
    have ga : a.getD j 0 = a[j] := by simp [hlt]
    have gb : b.getD j 0 = b[j]'(by omega) := by simp [show j < b.length by omega]
    simp only [Int.ofNat_eq_natCast, Int.toNat_natCast, r1, r2, ga, gb]
    simp only [true_implies, Bool.true_eq_false, false_implies, and_true]
    refine ⟨fun q => ?_, fun q => ?_⟩
    · have : a ≠ b := fun e => by subst e; simp at q
      simp [decO, decA, decTup, decMach, decCore, decTrap, decInstr, decPart, decGuest, decConf, decEvent, decVcpu, decStep, bytesS, boolS, eventsS, intsS, guestsS, vcpusS, rowS, castL, Option.bind_some, Option.map_some, Option.some.injEq, Nat.beq_refl, beq_self_eq_true, Bool.and_self, cond_true, cond_false, eq_self, this]
    · have q : a[j] = b[j]'(by omega) := by simpa using q
      refine ⟨j + 1, by rw [e2], rfl, ⟨by omega, ?_⟩, by show a.length - (j + 1) < a.length - j; omega⟩
      rw [List.take_succ_eq_append_getElem hlt, List.take_succ_eq_append_getElem (show j < b.length by omega), he, q]
  · have : j = a.length := by simp at h; omega
    subst this
    have : a = b := by rw [List.take_length] at he; rw [hl, List.take_length] at he; exact he
    simp [decO, decA, decTup, decMach, decCore, decTrap, decInstr, decPart, decGuest, decConf, decEvent, decVcpu, decStep, bytesS, boolS, eventsS, intsS, guestsS, vcpusS, rowS, castL, Option.bind_some, Option.map_some, Option.some.injEq, Nat.beq_refl, beq_self_eq_true, Bool.and_self, cond_true, cond_false, eq_self, this]
  
theorem c_ref05_Same : SpecOk EB 28 S_ref05_Same := spec_sigL ok_ref05_Same (n := 60) (fun (a, b, _) => fun _ => some (L_ref05_Same a b)) fun ⟨a, b, ⟨⟩⟩ h hok => a_ref05_Same a b (ok_bytes (okSL_head hok)) (ok_bytes (okSL_head (okSL_tail hok)))
end

/-! ref10_Same -/

def S_ref10_Same : Spec := sig [.mach, .mach] [.b] (fun (a, b, _) => decide (a = b))
noncomputable def E_ref10_Same : Env := EB.adds [(28, S_ref05_Same)]

theorem ok_ref10_Same : EnvOk E_ref10_Same := okEB.adds (l := _) ⟨c_ref05_Same, trivial⟩
theorem t_ref10_Same (a : PMach) (b : PMach) : evF E_ref10_Same 60 13 (encArgs [.mach, .mach] (a, b, ())) = bif (Bool.and (decide (a.core.regs = b.core.regs)) (Bool.and (BEq.beq a.core.pc b.core.pc) (Bool.and (decide (a.core.csr = b.core.csr)) true))) then (Tree.letv (okO [AT.b]) (decide (a.mem = b.mem)) fun x0 => (bif x0 then (bif (BEq.beq a.time b.time) then (Tree.letv (okO [AT.b]) (decide (a.out = b.out)) fun x1 => (bif x1 then (bif a.halted then (bif b.halted then (Tree.leaf (SV.b true)) else (Tree.leaf (SV.b false))) else (bif b.halted then (Tree.leaf (SV.b false)) else (Tree.leaf (SV.b true)))) else (Tree.leaf (SV.b false)))) else (Tree.leaf (SV.b false))) else (Tree.leaf (SV.b false)))) else (Tree.leaf (SV.b false)) := by kernel_rfl
section
attribute [local irreducible] evF evFL evFLs evFP
theorem a_ref10_Same (a : PMach) (b : PMach) (ok_a : okMach a) (ok_b : okMach b) : (evF E_ref10_Same 60 13 (encArgs [.mach, .mach] (a, b, ()))).ends fun out_ => decO [.b] out_ = some (decide (a = b)) := by
  rw [t_ref10_Same, Tree.ends_holds]
  simp only [Tree.holds_loop, Tree.holds_fork, Tree.holds_next, if_true, Tree.holds_cond, Tree.holds_letv, Tree.holds_leaf, Tree.holds_fail, decO, decA, decTup, decMach, decCore, decTrap, decInstr, decPart, decGuest, decConf, decEvent, decVcpu, decStep, bytesS, boolS, eventsS, intsS, guestsS, vcpusS, rowS, castL, Option.bind_some, Option.map_some, Option.some.injEq, Nat.beq_refl, beq_self_eq_true, Bool.and_self, cond_true, cond_false, eq_self]
  have key : a = b ↔ (a.core.regs = b.core.regs ∧ a.core.pc = b.core.pc ∧ a.core.csr = b.core.csr ∧ a.mem = b.mem ∧ a.time = b.time ∧ a.out = b.out ∧ a.halted = b.halted) := by
    constructor
    · rintro rfl; simp
    · rintro ⟨h1, h2, h3, h4, h5, h6, h7⟩; exact mach_ext (core_ext h1 h2 h3) h4 h5 h6 h7
  simp only [key]
  repeat' (first | refine drop_ok ?_ | intro _ | with_reducible apply And.intro)
  all_goals simp_all
  
theorem c_ref10_Same : SpecOk EB 13 S_ref10_Same := spec_sig ok_ref10_Same (n := 60) fun ⟨a, b, ⟨⟩⟩ h hok => a_ref10_Same a b (ok_mach (okSL_head hok)) (ok_mach (okSL_head (okSL_tail hok)))
end

/-! law26_ReplayMatchesReference -/

def S_law26_ReplayMatchesReference : Spec := sig [.guest, .i .i64, .rd .event] [.b] (fun (g, n, log, _) => true)
noncomputable def E_law26_ReplayMatchesReference : Env := EB_0_1_2.adds [(17, S_law26_awake), (20, S_ref26_Few), (19, S_ref26_Even), (22, S_ref26_Replay), (21, S_replay_Replay), (18, S_replay_Ordered), (13, S_ref10_Same)]

theorem ok_law26_ReplayMatchesReference : EnvOk E_law26_ReplayMatchesReference := okEB_0_1_2.adds (l := _) ⟨c_law26_awake, (up_to_0_1_2 c_ref26_Few), (up_to_0_1_2 c_ref26_Even), (up_to_0_1_2 c_ref26_Replay), c_replay_Replay, (up_to_0_1_2 c_replay_Ordered), (up_to_0_1_2 c_ref10_Same), trivial⟩
theorem t_law26_ReplayMatchesReference (g : PGuest) (n : Int) (log : List PEvent) : evF E_law26_ReplayMatchesReference 60 4 (encArgs [.guest, .i .i64, .rd .event] (g, n, log, ())) = Tree.letv (okO [AT.b]) true fun x0 => (bif x0 then (bif (decide ((Int.ofNat (List.length log)) > (100 : Int))) then (Tree.letv (okO [AT.b]) true fun x1 => (bif x1 then (bif (decide ((Int.ofNat (List.length log)) > (100 : Int))) then (Tree.leaf (SV.b true)) else (Tree.letv (okO [AT.b]) (K.ordL log) fun x2 => (bif x2 then (Tree.letv (okO [AT.b]) (K.ordL log) fun x3 => (bif x3 then (Tree.leaf (SV.b true)) else (Tree.leaf (SV.b false)))) else (Tree.letv (okO [AT.b]) (K.ordL log) fun x3 => (bif x3 then (Tree.leaf (SV.b false)) else (Tree.leaf (SV.b true))))))) else (Tree.leaf (SV.b false)))) else (Tree.letv (okO [AT.b]) (K.ordL log) fun x1 => (bif x1 then (Tree.letv (okO [AT.b]) (K.ordL log) fun x2 => (bif x2 then (Tree.letv (okO [AT.b]) (K.few26 g n log) fun x3 => (bif x3 then (bif (decide (And (n ≤ (1073741824 : Int)) ((List.length g.mem) ≤ 1099511627776))) then (Tree.letv (okO [AT.mach, (AT.i IntKind.i64), AT.b]) (K.replay (K.bareG g) n log) fun x4 => (bif x4.snd.snd then (bif (decide (And ((0 : Int) ≤ n) (And (n ≤ (1073741824 : Int)) ((Int.ofNat (List.length g.mem)) ≤ g.part.size)))) then (Tree.letv (okO [AT.mach, (AT.i IntKind.i64), AT.b]) (K.replay (K.bareG g) n log) fun x5 => (bif x5.snd.snd then (Tree.letv (okO [AT.b]) (decide (x4.fst = x5.fst)) fun x6 => (bif x6 then (bif (BEq.beq x4.snd.fst
 x5.snd.fst) then (Tree.leaf (SV.b true)) else (Tree.leaf (SV.b false))) else (Tree.leaf (SV.b false)))) else (Tree.letv (okO [AT.b]) (decide (x4.fst = x5.fst)) fun x6 => (bif x6 then (bif (BEq.beq x4.snd.fst x5.snd.fst) then (Tree.leaf (SV.b false)) else (Tree.leaf (SV.b false))) else (Tree.leaf (SV.b false)))))) else (Tree.fail)) else (bif (decide (And ((0 : Int) ≤ n) (And (n ≤ (1073741824 : Int)) ((Int.ofNat (List.length g.mem)) ≤ g.part.size)))) then (Tree.letv (okO [AT.mach, (AT.i IntKind.i64), AT.b]) (K.replay (K.bareG g) n log) fun x5 => (bif x5.snd.snd then (Tree.letv (okO [AT.b]) (decide (x4.fst = x5.fst)) fun x6 => (bif x6 then (bif (BEq.beq x4.snd.fst x5.snd.fst) then (Tree.leaf (SV.b false)) else (Tree.leaf (SV.b false))) else (Tree.leaf (SV.b false)))) else (Tree.letv (okO [AT.b]) (decide (x4.fst = x5.fst)) fun x6 => (bif x6 then (bif (BEq.beq x4.snd.fst x5.snd.fst) then (Tree.leaf (SV.b true)) else (Tree.leaf (SV.b false))) else (Tree.leaf (SV.b false)))))) else (Tree.fail)))) else (Tree.fail)) else (Tree.letv (okO [AT.b]) true fun x4 => (bif x4 then (bif (decide ((Int.ofNat (List.length log)) > (100 : Int))) then (Tree.leaf (SV.b true)) else (Tree.letv (okO [AT.b]) (K.ordL log) fun x5 => (bif x5 then (Tree.letv (okO [AT.b]) (K.ordL log) fun x6 => (bif x6 then (Tree.leaf (SV.b true)) else (Tree.leaf (SV.b false)))) else (Tree.letv (okO [AT.b]) (K.ordL log) fun x6 => (bif x6 then (Tree.leaf (SV.b false)) else (Tree.leaf (SV.b true))))))) else (Tree.leaf (SV.b
 false)))))) else (Tree.letv (okO [AT.b]) true fun x3 => (bif x3 then (bif (decide ((Int.ofNat (List.length log)) > (100 : Int))) then (Tree.leaf (SV.b true)) else (Tree.letv (okO [AT.b]) (K.ordL log) fun x4 => (bif x4 then (Tree.letv (okO [AT.b]) (K.ordL log) fun x5 => (bif x5 then (Tree.leaf (SV.b true)) else (Tree.leaf (SV.b false)))) else (Tree.letv (okO [AT.b]) (K.ordL log) fun x5 => (bif x5 then (Tree.leaf (SV.b false)) else (Tree.leaf (SV.b true))))))) else (Tree.leaf (SV.b false)))))) else (Tree.letv (okO [AT.b]) (K.ordL log) fun x2 => (bif x2 then (Tree.letv (okO [AT.b]) true fun x3 => (bif x3 then (bif (decide ((Int.ofNat (List.length log)) > (100 : Int))) then (Tree.leaf (SV.b true)) else (Tree.letv (okO [AT.b]) (K.ordL log) fun x4 => (bif x4 then (Tree.letv (okO [AT.b]) (K.ordL log) fun x5 => (bif x5 then (Tree.leaf (SV.b true)) else (Tree.leaf (SV.b false)))) else (Tree.letv (okO [AT.b]) (K.ordL log) fun x5 => (bif x5 then (Tree.leaf (SV.b false)) else (Tree.leaf (SV.b true))))))) else (Tree.leaf (SV.b false)))) else (Tree.letv (okO [AT.b]) (K.few26 g n log) fun x3 => (bif x3 then (bif (decide (And (n ≤ (1073741824 : Int)) ((List.length g.mem) ≤ 1099511627776))) then (Tree.letv (okO [AT.mach, (AT.i IntKind.i64), AT.b]) (K.replay (K.bareG g) n log) fun x4 => (bif x4.snd.snd then (bif (decide (And ((0 : Int) ≤ n) (And (n ≤ (1073741824 : Int)) ((Int.ofNat (List.length g.mem)) ≤ g.part.size)))) then (Tree.letv (okO [AT.mach, (AT.i IntKind.i64), AT.b]) (K.replay
 (K.bareG g) n log) fun x5 => (bif x5.snd.snd then (Tree.letv (okO [AT.b]) (decide (x4.fst = x5.fst)) fun x6 => (bif x6 then (bif (BEq.beq x4.snd.fst x5.snd.fst) then (Tree.leaf (SV.b true)) else (Tree.leaf (SV.b false))) else (Tree.leaf (SV.b false)))) else (Tree.letv (okO [AT.b]) (decide (x4.fst = x5.fst)) fun x6 => (bif x6 then (bif (BEq.beq x4.snd.fst x5.snd.fst) then (Tree.leaf (SV.b false)) else (Tree.leaf (SV.b false))) else (Tree.leaf (SV.b false)))))) else (Tree.fail)) else (bif (decide (And ((0 : Int) ≤ n) (And (n ≤ (1073741824 : Int)) ((Int.ofNat (List.length g.mem)) ≤ g.part.size)))) then (Tree.letv (okO [AT.mach, (AT.i IntKind.i64), AT.b]) (K.replay (K.bareG g) n log) fun x5 => (bif x5.snd.snd then (Tree.letv (okO [AT.b]) (decide (x4.fst = x5.fst)) fun x6 => (bif x6 then (bif (BEq.beq x4.snd.fst x5.snd.fst) then (Tree.leaf (SV.b false)) else (Tree.leaf (SV.b false))) else (Tree.leaf (SV.b false)))) else (Tree.letv (okO [AT.b]) (decide (x4.fst = x5.fst)) fun x6 => (bif x6 then (bif (BEq.beq x4.snd.fst x5.snd.fst) then (Tree.leaf (SV.b true)) else (Tree.leaf (SV.b false))) else (Tree.leaf (SV.b false)))))) else (Tree.fail)))) else (Tree.fail)) else (Tree.letv (okO [AT.b]) true fun x4 => (bif x4 then (bif (decide ((Int.ofNat (List.length log)) > (100 : Int))) then (Tree.leaf (SV.b true)) else (Tree.letv (okO [AT.b]) (K.ordL log) fun x5 => (bif x5 then (Tree.letv (okO [AT.b]) (K.ordL log) fun x6 => (bif x6 then (Tree.leaf (SV.b true)) else (Tree.leaf (SV.b false))))
 else (Tree.letv (okO [AT.b]) (K.ordL log) fun x6 => (bif x6 then (Tree.leaf (SV.b false)) else (Tree.leaf (SV.b true))))))) else (Tree.leaf (SV.b false))))))))))) else (Tree.letv (okO [AT.b]) true fun x1 => (bif x1 then (bif (decide ((Int.ofNat (List.length log)) > (100 : Int))) then (Tree.leaf (SV.b true)) else (Tree.letv (okO [AT.b]) (K.ordL log) fun x2 => (bif x2 then (Tree.letv (okO [AT.b]) (K.ordL log) fun x3 => (bif x3 then (Tree.leaf (SV.b true)) else (Tree.leaf (SV.b false)))) else (Tree.letv (okO [AT.b]) (K.ordL log) fun x3 => (bif x3 then (Tree.leaf (SV.b false)) else (Tree.leaf (SV.b true))))))) else (Tree.leaf (SV.b false))))) := by kernel_rfl
section
attribute [local irreducible] evF evFL evFLs evFP
theorem a_law26_ReplayMatchesReference (g : PGuest) (n : Int) (log : List PEvent) (ok_g : okGuest g) (ok_n : okI .i64 n) (ok_log : okEvents log) : (evF E_law26_ReplayMatchesReference 60 4 (encArgs [.guest, .i .i64, .rd .event] (g, n, log, ()))).ends fun out_ => decO [.b] out_ = some (true) := by
  rw [t_law26_ReplayMatchesReference, Tree.ends_holds]
  have f := fun h : K.few26 g n log = true => few26_facts h
  simp only [Tree.holds_loop, Tree.holds_fork, Tree.holds_next, if_true, Tree.holds_cond, Tree.holds_letv, Tree.holds_leaf, Tree.holds_fail, decO, decA, decTup, decMach, decCore, decTrap, decInstr, decPart, decGuest, decConf, decEvent, decVcpu, decStep, bytesS, boolS, eventsS, intsS, guestsS, vcpusS, rowS, castL, Option.bind_some, Option.map_some, Option.some.injEq, Nat.beq_refl, beq_self_eq_true, Bool.and_self, cond_true, cond_false, eq_self, beq_iff_eq, beq_eq_false_iff_ne, bne_iff_ne, bne_eq_false_iff_eq, ne_eq, decide_eq_true_eq, decide_eq_false_iff_not, ble_true, ble_false, inRange_iff, inRange_false, Int.ofNat_eq_natCast]
  repeat' (first | refine drop_ok ?_ | intro _ | with_reducible apply And.intro)
  all_goals first
    | trivial
    | (exfalso
       obtain ⟨l1, l2, l3, l4, l5⟩ := f (by assumption)
       rename_i q
       exact q ⟨by omega, by omega⟩)
    | (exfalso
       obtain ⟨l1, l2, l3, l4, l5⟩ := f (by assumption)
       rename_i q
       exact q ⟨by omega, by omega, by omega⟩)
    | (simp_all; done)
    | trace_state
  
theorem c_law26_ReplayMatchesReference : SpecOk EB_0_1_2 4 S_law26_ReplayMatchesReference := spec_sig ok_law26_ReplayMatchesReference (n := 60) fun ⟨g, n, log, ⟨⟩⟩ h hok => a_law26_ReplayMatchesReference g n log (ok_guest (okSL_head hok)) (ok_int (okSL_head (okSL_tail hok))) (ok_events (okSL_head (okSL_tail (okSL_tail hok))))
end


end Go.Proofs.YtchljgmcempedaaGreatDoor
