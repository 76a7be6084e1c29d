/- The law CsrWritesAreMasked, by its tree (nothing is claimed here). -/
import Derived.Test.YtjddjfapfhjheaaDoorC3
set_option linter.unusedVariables false
set_option linter.unusedSimpArgs false
namespace Go.Proofs.YtjddjfapfhjheaaDoor
open Go
set_option maxRecDepth 100000
theorem t4 (c : List Int) (time n m v u : Int) : evF E3 60 4 [.agg [.arr .u32 12 c], svI .u64 time, svI .u8 n, svI .u8 m, svI .u32 v, svI .u32 u] =
  Tree.letv (fun x0 => (okS (SV.v (Value.bool x0)))) true fun x0 =>
  (bif x0 then
    (Tree.letv (fun x1 => (okS (SV.agg [(SV.arr IntKind.u32 12 x1)]))) (writeF c (IntKind.wrap IntKind.i64 (Int.tmod n (12 : Int))) v) fun x1 =>
    (Tree.letv (fun x2 => (okS (SV.agg [(SV.arr IntKind.u32 12 x2)]))) (writeF x1 (IntKind.wrap IntKind.i64 (Int.tmod n (12 : Int))) u) fun x2 =>
    (Tree.letv (fun x3 => (okS (SV.agg [(SV.arr IntKind.u32 12 x3)]))) (writeF c (IntKind.wrap IntKind.i64 (Int.tmod n (12 : Int))) u) fun x3 =>
    (bif (Bool.not (decide (x2 = x3))) then
      (Tree.leaf (SV.b false))
    else
      (bif (bne (IntKind.wrap IntKind.i64 (Int.tmod n (12 : Int))) (IntKind.wrap IntKind.i64 (Int.tmod m (12 : Int)))) then
        (Tree.letv (fun x4 => (okS (SV.v (Value.int IntKind.u32 x4)))) (readF x1 time (IntKind.wrap IntKind.i64 (Int.tmod m (12 : Int)))) fun x4 =>
        (Tree.letv (fun x5 => (okS (SV.v (Value.int IntKind.u32 x5)))) (readF c time (IntKind.wrap IntKind.i64 (Int.tmod m (12 : Int)))) fun x5 =>
        (bif (bne x4 x5) then
          (Tree.leaf (SV.b false))
        else
          (Tree.letv (fun x6 => (okS (SV.v (Value.int IntKind.u32 x6)))) (readF c (0 : Int) (IntKind.wrap IntKind.i64 (Int.tmod n (12 : Int)))) fun x6 =>
          (Tree.letv (fun x7 => (okS (SV.agg [(SV.arr IntKind.u32 12 x7)]))) (writeF x1 (IntKind.wrap IntKind.i64 (Int.tmod n (12 : Int))) x6) fun x7 =>
          (bif (Bool.not (decide (x7 = c))) then
            (bif (bne (IntKind.wrap IntKind.i64 (Int.tmod n (12 : Int))) (7 : Int)) then
              (bif (bne (IntKind.wrap IntKind.i64 (Int.tmod n (12 : Int))) (8 : Int)) then
                (Tree.leaf (SV.b false))
              else
                (bif (BEq.beq (IntKind.wrap IntKind.i64 (Int.tmod n (12 : Int))) (7 : Int)) then
                  (bif (decide (x1 = c)) then
                    (Tree.leaf (SV.b true))
                  else
                    (Tree.leaf (SV.b false)))
                else
                  (bif (BEq.beq (IntKind.wrap IntKind.i64 (Int.tmod n (12 : Int))) (8 : Int)) then
                    (bif (decide (x1 = c)) then
                      (Tree.leaf (SV.b true))
                    else
                      (Tree.leaf (SV.b false)))
                  else
                    (Tree.letv (fun x8 => (okS (SV.v (Value.int IntKind.u32 x8)))) (maskF (IntKind.wrap IntKind.i64 (Int.tmod n (12 : Int)))) fun x8 =>
                    (Tree.letv (fun x9 => (okS (SV.v (Value.int IntKind.u32 x9)))) (readF x1 time (IntKind.wrap IntKind.i64 (Int.tmod n (12 : Int)))) fun x9 =>
                    (Tree.letv (fun x10 => (okS (SV.v (Value.int IntKind.u32 x10)))) (readF c time (IntKind.wrap IntKind.i64 (Int.tmod n (12 : Int)))) fun x10 =>
                    (bif (BEq.beq x9 (IntKind.wrap IntKind.u32 ((IntKind.wrap IntKind.u32 (Int.ofNat (BitVec.toNat ((BitVec.ofInt 32 v) &&& (BitVec.ofInt 32 x8))))) + (IntKind.wrap IntKind.u32 (Int.ofNat (BitVec.toNat ((BitVec.ofInt 32 x10) &&& (BitVec.ofInt 32 (IntKind.wrap IntKind.u32 ((4294967295 : Int) - x8)))))))))) then
                      (Tree.leaf (SV.b true))
                    else
                      (Tree.leaf (SV.b false)))))))))
            else
              (bif (BEq.beq (IntKind.wrap IntKind.i64 (Int.tmod n (12 : Int))) (7 : Int)) then
                (bif (decide (x1 = c)) then
                  (Tree.leaf (SV.b true))
                else
                  (Tree.leaf (SV.b false)))
              else
                (bif (BEq.beq (IntKind.wrap IntKind.i64 (Int.tmod n (12 : Int))) (8 : Int)) then
                  (bif (decide (x1 = c)) then
                    (Tree.leaf (SV.b true))
                  else
                    (Tree.leaf (SV.b false)))
                else
                  (Tree.letv (fun x8 => (okS (SV.v (Value.int IntKind.u32 x8)))) (maskF (IntKind.wrap IntKind.i64 (Int.tmod n (12 : Int)))) fun x8 =>
                  (Tree.letv (fun x9 => (okS (SV.v (Value.int IntKind.u32 x9)))) (readF x1 time (IntKind.wrap IntKind.i64 (Int.tmod n (12 : Int)))) fun x9 =>
                  (Tree.letv (fun x10 => (okS (SV.v (Value.int IntKind.u32 x10)))) (readF c time (IntKind.wrap IntKind.i64 (Int.tmod n (12 : Int)))) fun x10 =>
                  (bif (BEq.beq x9 (IntKind.wrap IntKind.u32 ((IntKind.wrap IntKind.u32 (Int.ofNat (BitVec.toNat ((BitVec.ofInt 32 v) &&& (BitVec.ofInt 32 x8))))) + (IntKind.wrap IntKind.u32 (Int.ofNat (BitVec.toNat ((BitVec.ofInt 32 x10) &&& (BitVec.ofInt 32 (IntKind.wrap IntKind.u32 ((4294967295 : Int) - x8)))))))))) then
                    (Tree.leaf (SV.b true))
                  else
                    (Tree.leaf (SV.b false)))))))))
          else
            (bif (BEq.beq (IntKind.wrap IntKind.i64 (Int.tmod n (12 : Int))) (7 : Int)) then
              (bif (decide (x1 = c)) then
                (Tree.leaf (SV.b true))
              else
                (Tree.leaf (SV.b false)))
            else
              (bif (BEq.beq (IntKind.wrap IntKind.i64 (Int.tmod n (12 : Int))) (8 : Int)) then
                (bif (decide (x1 = c)) then
                  (Tree.leaf (SV.b true))
                else
                  (Tree.leaf (SV.b false)))
              else
                (Tree.letv (fun x8 => (okS (SV.v (Value.int IntKind.u32 x8)))) (maskF (IntKind.wrap IntKind.i64 (Int.tmod n (12 : Int)))) fun x8 =>
                (Tree.letv (fun x9 => (okS (SV.v (Value.int IntKind.u32 x9)))) (readF x1 time (IntKind.wrap IntKind.i64 (Int.tmod n (12 : Int)))) fun x9 =>
                (Tree.letv (fun x10 => (okS (SV.v (Value.int IntKind.u32 x10)))) (readF c time (IntKind.wrap IntKind.i64 (Int.tmod n (12 : Int)))) fun x10 =>
                (bif (BEq.beq x9 (IntKind.wrap IntKind.u32 ((IntKind.wrap IntKind.u32 (Int.ofNat (BitVec.toNat ((BitVec.ofInt 32 v) &&& (BitVec.ofInt 32 x8))))) + (IntKind.wrap IntKind.u32 (Int.ofNat (BitVec.toNat ((BitVec.ofInt 32 x10) &&& (BitVec.ofInt 32 (IntKind.wrap IntKind.u32 ((4294967295 : Int) - x8)))))))))) then
                  (Tree.leaf (SV.b true))
                else
                  (Tree.leaf (SV.b false))))))))))))))
      else
        (Tree.letv (fun x4 => (okS (SV.v (Value.int IntKind.u32 x4)))) (readF c (0 : Int) (IntKind.wrap IntKind.i64 (Int.tmod n (12 : Int)))) fun x4 =>
        (Tree.letv (fun x5 => (okS (SV.agg [(SV.arr IntKind.u32 12 x5)]))) (writeF x1 (IntKind.wrap IntKind.i64 (Int.tmod n (12 : Int))) x4) fun x5 =>
        (bif (Bool.not (decide (x5 = c))) then
          (bif (bne (IntKind.wrap IntKind.i64 (Int.tmod n (12 : Int))) (7 : Int)) then
            (bif (bne (IntKind.wrap IntKind.i64 (Int.tmod n (12 : Int))) (8 : Int)) then
              (Tree.leaf (SV.b false))
            else
              (bif (BEq.beq (IntKind.wrap IntKind.i64 (Int.tmod n (12 : Int))) (7 : Int)) then
                (bif (decide (x1 = c)) then
                  (Tree.leaf (SV.b true))
                else
                  (Tree.leaf (SV.b false)))
              else
                (bif (BEq.beq (IntKind.wrap IntKind.i64 (Int.tmod n (12 : Int))) (8 : Int)) then
                  (bif (decide (x1 = c)) then
                    (Tree.leaf (SV.b true))
                  else
                    (Tree.leaf (SV.b false)))
                else
                  (Tree.letv (fun x6 => (okS (SV.v (Value.int IntKind.u32 x6)))) (maskF (IntKind.wrap IntKind.i64 (Int.tmod n (12 : Int)))) fun x6 =>
                  (Tree.letv (fun x7 => (okS (SV.v (Value.int IntKind.u32 x7)))) (readF x1 time (IntKind.wrap IntKind.i64 (Int.tmod n (12 : Int)))) fun x7 =>
                  (Tree.letv (fun x8 => (okS (SV.v (Value.int IntKind.u32 x8)))) (readF c time (IntKind.wrap IntKind.i64 (Int.tmod n (12 : Int)))) fun x8 =>
                  (bif (BEq.beq x7 (IntKind.wrap IntKind.u32 ((IntKind.wrap IntKind.u32 (Int.ofNat (BitVec.toNat ((BitVec.ofInt 32 v) &&& (BitVec.ofInt 32 x6))))) + (IntKind.wrap IntKind.u32 (Int.ofNat (BitVec.toNat ((BitVec.ofInt 32 x8) &&& (BitVec.ofInt 32 (IntKind.wrap IntKind.u32 ((4294967295 : Int) - x6)))))))))) then
                    (Tree.leaf (SV.b true))
                  else
                    (Tree.leaf (SV.b false)))))))))
          else
            (bif (BEq.beq (IntKind.wrap IntKind.i64 (Int.tmod n (12 : Int))) (7 : Int)) then
              (bif (decide (x1 = c)) then
                (Tree.leaf (SV.b true))
              else
                (Tree.leaf (SV.b false)))
            else
              (bif (BEq.beq (IntKind.wrap IntKind.i64 (Int.tmod n (12 : Int))) (8 : Int)) then
                (bif (decide (x1 = c)) then
                  (Tree.leaf (SV.b true))
                else
                  (Tree.leaf (SV.b false)))
              else
                (Tree.letv (fun x6 => (okS (SV.v (Value.int IntKind.u32 x6)))) (maskF (IntKind.wrap IntKind.i64 (Int.tmod n (12 : Int)))) fun x6 =>
                (Tree.letv (fun x7 => (okS (SV.v (Value.int IntKind.u32 x7)))) (readF x1 time (IntKind.wrap IntKind.i64 (Int.tmod n (12 : Int)))) fun x7 =>
                (Tree.letv (fun x8 => (okS (SV.v (Value.int IntKind.u32 x8)))) (readF c time (IntKind.wrap IntKind.i64 (Int.tmod n (12 : Int)))) fun x8 =>
                (bif (BEq.beq x7 (IntKind.wrap IntKind.u32 ((IntKind.wrap IntKind.u32 (Int.ofNat (BitVec.toNat ((BitVec.ofInt 32 v) &&& (BitVec.ofInt 32 x6))))) + (IntKind.wrap IntKind.u32 (Int.ofNat (BitVec.toNat ((BitVec.ofInt 32 x8) &&& (BitVec.ofInt 32 (IntKind.wrap IntKind.u32 ((4294967295 : Int) - x6)))))))))) then
                  (Tree.leaf (SV.b true))
                else
                  (Tree.leaf (SV.b false)))))))))
        else
          (bif (BEq.beq (IntKind.wrap IntKind.i64 (Int.tmod n (12 : Int))) (7 : Int)) then
            (bif (decide (x1 = c)) then
              (Tree.leaf (SV.b true))
            else
              (Tree.leaf (SV.b false)))
          else
            (bif (BEq.beq (IntKind.wrap IntKind.i64 (Int.tmod n (12 : Int))) (8 : Int)) then
              (bif (decide (x1 = c)) then
                (Tree.leaf (SV.b true))
              else
                (Tree.leaf (SV.b false)))
            else
              (Tree.letv (fun x6 => (okS (SV.v (Value.int IntKind.u32 x6)))) (maskF (IntKind.wrap IntKind.i64 (Int.tmod n (12 : Int)))) fun x6 =>
              (Tree.letv (fun x7 => (okS (SV.v (Value.int IntKind.u32 x7)))) (readF x1 time (IntKind.wrap IntKind.i64 (Int.tmod n (12 : Int)))) fun x7 =>
              (Tree.letv (fun x8 => (okS (SV.v (Value.int IntKind.u32 x8)))) (readF c time (IntKind.wrap IntKind.i64 (Int.tmod n (12 : Int)))) fun x8 =>
              (bif (BEq.beq x7 (IntKind.wrap IntKind.u32 ((IntKind.wrap IntKind.u32 (Int.ofNat (BitVec.toNat ((BitVec.ofInt 32 v) &&& (BitVec.ofInt 32 x6))))) + (IntKind.wrap IntKind.u32 (Int.ofNat (BitVec.toNat ((BitVec.ofInt 32 x8) &&& (BitVec.ofInt 32 (IntKind.wrap IntKind.u32 ((4294967295 : Int) - x6)))))))))) then
                (Tree.leaf (SV.b true))
              else
                (Tree.leaf (SV.b false))))))))))))))))
  else
    (Tree.leaf (SV.b false))) := by kernel_rfl
attribute [local irreducible] evF
theorem mk_range : mk.all (fun m => decide (0 ≤ m) && decide (m < 4294967296)) = true := by kernel_rfl
theorem mk_at (k : Nat) : 0 ≤ mk.getD k 0 ∧ mk.getD k 0 < 4294967296 := by
  rw [List.getD_eq_getElem?_getD]
  cases h : mk[k]? with
  | none => simp
  | some m => simpa using List.all_eq_true.1 mk_range m (List.mem_of_getElem? h)
theorem readF_else {c : List Int} {t i : Int} (h0 : 0 ≤ i) (h1 : i < 12) (h7 : i ≠ 7) (h8 : i ≠ 8) : readF c t i = c.getD i.toNat 0 := by
  unfold readF
  rw [show (i == 7) = false by simpa using h7, show (i == 8) = false by simpa using h8, isB_in h0 h1]; rfl
theorem law4 (c : List Int) (time n m v u : Int) (hc : c.length = 12) (hc' : ∀ x ∈ c, okI .u32 x) (h1 : okI .u8 n) (h2 : okI .u8 m) :
    (evF E3 60 4 [.agg [.arr .u32 12 c], svI .u64 time, svI .u8 n, svI .u8 m, svI .u32 v, svI .u32 u]).holds fun r => unb r = .v (.bool true) := by
  rw [t4]
  obtain ⟨a0, a1⟩ := okI_u8 h1
  obtain ⟨b0, b1⟩ := okI_u8 h2
  have hi : IntKind.i64.wrap (Int.tmod n 12) = n % 12 := by
    rw [Int.tmod_eq_emod_of_nonneg a0, wrapI64 (by omega) (by omega)]
  have hk : IntKind.i64.wrap (Int.tmod m 12) = m % 12 := by
    rw [Int.tmod_eq_emod_of_nonneg b0, wrapI64 (by omega) (by omega)]
  have i0 : 0 ≤ n % 12 := by omega
  have i1 : n % 12 < 12 := by omega
  have k0 : 0 ≤ m % 12 := by omega
  have k1 : m % 12 < 12 := by omega
  generalize n % 12 = i at *
  generalize m % 12 = k at *
  have hl : i.toNat < c.length := by omega
  have hx : 0 ≤ c.getD i.toNat 0 ∧ c.getD i.toNat 0 < 4294967296 := by
    rw [List.getD_eq_getElem?_getD, List.getElem?_eq_getElem hl]
    exact okI_u32 (hc' _ (List.getElem_mem hl))
  have g1 : writeF (writeF c i v) i u = writeF c i u := by
    rw [writeF_in _ i0 i1, writeF_in _ i0 i1, writeF_in _ i0 i1, getD_set_self _ hl, mix_last, List.set_set]
  have g2 : i ≠ k → readF (writeF c i v) time k = readF c time k := fun hne => by
    unfold readF
    rw [writeF_in _ i0 i1, getD_set_other _ (show i.toNat ≠ k.toNat by omega)]
  have g3 : i ≠ 7 → i ≠ 8 → writeF (writeF c i v) i (readF c 0 i) = c := fun h7 h8 => by
    rw [readF_else i0 i1 h7 h8, writeF_in _ i0 i1, writeF_in _ i0 i1, getD_set_self _ hl, mix_back _ _ hx.1 hx.2, List.set_set, set_same hl]
  have g4 : i = 7 ∨ i = 8 → ∀ (d : List Int) (x : Int), d = c → writeF d i x = c := fun h d x hd => by
    subst hd
    have : mk.getD i.toNat 0 = 0 := by rcases h with rfl | rfl <;> rfl
    rw [writeF_in _ i0 i1, this, mix_none _ hx.1 hx.2, set_same hl]
  have g5 : i ≠ 7 → i ≠ 8 → (readF (writeF c i v) time i == IntKind.u32.wrap ((IntKind.u32.wrap (Int.ofNat (BitVec.toNat ((BitVec.ofInt 32 v) &&& (BitVec.ofInt 32 (maskF i)))))) + (IntKind.u32.wrap (Int.ofNat (BitVec.toNat ((BitVec.ofInt 32 (readF c time i)) &&& (BitVec.ofInt 32 (IntKind.u32.wrap ((4294967295 : Int) - maskF i))))))))) = true := fun h7 h8 => by
    rw [readF_else i0 i1 h7 h8, readF_else i0 i1 h7 h8, writeF_in _ i0 i1, getD_set_self _ hl, maskF_in i0 i1, mix_add _ _ (mk_at _).1 (mk_at _).2]
    exact beq_self_eq_true _
  have fin : ∀ q : Bool, (i != k) = q → ((q = true → i ≠ k)) := fun q h1 h2 => by rw [h2] at h1; simpa using h1
  cases hq : (i != k) with
  | true =>
    have g2 := g2 (by simpa using hq)
    have hne : ∀ x : Int, (x != x) = false := fun x => by simp
    by_cases h7 : i = 7
    · have q0 := g4 (.inl h7) c v rfl
      have q1 := fun x => g4 (.inl h7) c x rfl
      have e7 : (i == 7) = true := by simpa using h7
      simp only [Tree.holds_letv, Tree.holds_cond, Tree.holds_leaf, Tree.holds_fail, hi, hk, hq, g1, g2, q0, q1, e7, hne, cond_true, cond_false, beq_self_eq_true, decide_true, Bool.not_true]
      simp [unb, unbA, unb1]
    · have e7 : (i == 7) = false := by simpa using h7
      by_cases h8 : i = 8
      · have q1 := fun x => g4 (.inr h8) c x rfl
        have e8 : (i == 8) = true := by simpa using h8
        simp only [Tree.holds_letv, Tree.holds_cond, Tree.holds_leaf, Tree.holds_fail, hi, hk, hq, g1, g2, q1, e7, e8, hne, cond_true, cond_false, beq_self_eq_true, decide_true, Bool.not_true]
        simp [unb, unbA, unb1]
      · have e8 : (i == 8) = false := by simpa using h8
        have g3 := g3 h7 h8
        have g5 := g5 h7 h8
        simp only [Tree.holds_letv, Tree.holds_cond, Tree.holds_leaf, Tree.holds_fail, hi, hk, hq, g1, g2, g3, g5, e7, e8, hne, cond_true, cond_false, beq_self_eq_true, decide_true, Bool.not_true]
        simp [unb, unbA, unb1]
  | false =>
    by_cases h7 : i = 7
    · have q1 := fun x => g4 (.inl h7) c x rfl
      have e7 : (i == 7) = true := by simpa using h7
      simp only [Tree.holds_letv, Tree.holds_cond, Tree.holds_leaf, Tree.holds_fail, hi, hk, hq, g1, q1, e7, cond_true, cond_false, beq_self_eq_true, decide_true, Bool.not_true]
      simp [unb, unbA, unb1]
    · have e7 : (i == 7) = false := by simpa using h7
      by_cases h8 : i = 8
      · have q1 := fun x => g4 (.inr h8) c x rfl
        have e8 : (i == 8) = true := by simpa using h8
        simp only [Tree.holds_letv, Tree.holds_cond, Tree.holds_leaf, Tree.holds_fail, hi, hk, hq, g1, q1, e7, e8, cond_true, cond_false, beq_self_eq_true, decide_true, Bool.not_true]
        simp [unb, unbA, unb1]
      · have e8 : (i == 8) = false := by simpa using h8
        have g3 := g3 h7 h8
        have g5 := g5 h7 h8
        simp only [Tree.holds_letv, Tree.holds_cond, Tree.holds_leaf, Tree.holds_fail, hi, hk, hq, g1, g3, g5, e7, e8, cond_true, cond_false, beq_self_eq_true, decide_true, Bool.not_true]
        simp [unb, unbA, unb1]
end Go.Proofs.YtjddjfapfhjheaaDoor
