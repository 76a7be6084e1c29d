/- The law CsrWritesCommute, by its tree (nothing is claimed here). -/
import Derived.Test.YtjddjfapfhjheaaDoorC3
set_option linter.unusedVariables false
set_option linter.unusedSimpArgs false
namespace Go.Proofs.YtjddjfapfhjheaaDoor
open Go
set_option maxRecDepth 100000
theorem t6 (c : List Int) (n m v u : Int) : evF E3 60 6 [.agg [.arr .u32 12 c], svI .u8 n, svI .u8 m, svI .u32 v, svI .u32 u] =
  Tree.letv (fun x0 => (okS (SV.v (Value.bool x0)))) true fun x0 =>
  (bif x0 then
    (bif (bne (IntKind.wrap IntKind.i64 (Int.tmod n (12 : Int))) (IntKind.wrap IntKind.i64 (Int.tmod m (12 : Int)))) then
      (Tree.letv (fun x1 => (okS (SV.agg [(SV.arr IntKind.u32 12 x1)]))) (writeF c (IntKind.wrap IntKind.i64 (Int.tmod n (12 : Int))) v) fun x1 =>
      (Tree.letv (fun x2 => (okS (SV.agg [(SV.arr IntKind.u32 12 x2)]))) (writeF x1 (IntKind.wrap IntKind.i64 (Int.tmod m (12 : Int))) u) fun x2 =>
      (Tree.letv (fun x3 => (okS (SV.agg [(SV.arr IntKind.u32 12 x3)]))) (writeF c (IntKind.wrap IntKind.i64 (Int.tmod m (12 : Int))) u) fun x3 =>
      (Tree.letv (fun x4 => (okS (SV.agg [(SV.arr IntKind.u32 12 x4)]))) (writeF x3 (IntKind.wrap IntKind.i64 (Int.tmod n (12 : Int))) v) fun x4 =>
      (bif (Bool.not (decide (x2 = x4))) then
        (Tree.leaf (SV.b false))
      else
        (bif (bne (IntKind.wrap IntKind.i64 (Int.tmod n (12 : Int))) (IntKind.wrap IntKind.i64 (Int.tmod m (12 : Int)))) then
          (Tree.letv (fun x5 => (okS (SV.v (Value.string x5)))) (nameF (IntKind.wrap IntKind.i64 (Int.tmod n (12 : Int)))) fun x5 =>
          (Tree.letv (fun x6 => (okS (SV.v (Value.string x6)))) (nameF (IntKind.wrap IntKind.i64 (Int.tmod m (12 : Int)))) fun x6 =>
          (bif (BEq.beq (ByteArray.toList x5) (ByteArray.toList x6)) then
            (Tree.leaf (SV.b false))
          else
            (Tree.letv (fun x7 => (okS (SV.v (Value.string x7)))) (nameF (IntKind.wrap IntKind.i64 (Int.tmod n (12 : Int)))) fun x7 =>
            (bif (BEq.beq (ByteArray.toList x7) []) then
              (Tree.leaf (SV.b false))
            else
              (Tree.letv (fun x8 => (okS (SV.v (Value.string x8)))) (nameF (IntKind.wrap IntKind.i64 ((12 : Int) + (IntKind.wrap IntKind.i64 (Int.tmod n (12 : Int)))))) fun x8 =>
              (bif (Bool.not (BEq.beq (ByteArray.toList x8) [])) then
                (Tree.leaf (SV.b false))
              else
                (Tree.letv (fun x9 => (okS (SV.agg [(SV.arr IntKind.u32 12 x9)]))) (writeF c (IntKind.wrap IntKind.i64 (Int.tmod n (12 : Int))) (0 : Int)) fun x9 =>
                (Tree.letv (fun x10 => (okS (SV.v (Value.int IntKind.u32 x10)))) (maskF (IntKind.wrap IntKind.i64 (Int.tmod n (12 : Int)))) fun x10 =>
                (Tree.letv (fun x11 => (okS (SV.v (Value.int IntKind.u32 x11)))) (maskF (IntKind.wrap IntKind.i64 ((12 : Int) + (IntKind.wrap IntKind.i64 (Int.tmod n (12 : Int)))))) fun x11 =>
                (bif (BEq.beq x11 (0 : Int)) then
                  (Tree.letv (fun x12 => (okS (SV.agg [(SV.arr IntKind.u32 12 x12)]))) (writeF c (IntKind.wrap IntKind.i64 ((12 : Int) + (IntKind.wrap IntKind.i64 (Int.tmod n (12 : Int))))) v) fun x12 =>
                  (bif (decide (x12 = c)) then
                    (Tree.letv (fun x13 => (okS (SV.agg [(SV.arr IntKind.u32 12 x13)]))) (writeF x9 (IntKind.wrap IntKind.i64 (Int.tmod n (12 : Int))) (IntKind.wrap IntKind.u32 (Int.ofNat (BitVec.toNat ((BitVec.ofInt 32 v) &&& (BitVec.ofInt 32 x10)))))) fun x13 =>
                    (Tree.letv (fun x14 => (okS (SV.agg [(SV.arr IntKind.u32 12 x14)]))) (writeF c (IntKind.wrap IntKind.i64 (Int.tmod n (12 : Int))) v) fun x14 =>
                    (bif (decide (x13 = x14)) then
                      (bif (inRange (IntKind.wrap IntKind.i64 (Int.tmod n (12 : Int))) 12) then
                        (bif (BEq.beq (IntKind.wrap IntKind.u32 (Int.ofNat (BitVec.toNat ((BitVec.ofInt 32 (List.getD x9 ((Int.toNat (IntKind.wrap IntKind.i64 (Int.tmod n (12 : Int))))) (0 : Int))) &&& (BitVec.ofInt 32 x10))))) (0 : Int)) then
                          (Tree.leaf (SV.b true))
                        else
                          (Tree.leaf (SV.b false)))
                      else
                        (Tree.fail))
                    else
                      (Tree.leaf (SV.b false)))))
                  else
                    (Tree.leaf (SV.b false))))
                else
                  (Tree.leaf (SV.b false)))))))))))))
        else
          (Tree.letv (fun x5 => (okS (SV.v (Value.string x5)))) (nameF (IntKind.wrap IntKind.i64 (Int.tmod n (12 : Int)))) fun x5 =>
          (bif (BEq.beq (ByteArray.toList x5) []) then
            (Tree.leaf (SV.b false))
          else
            (Tree.letv (fun x6 => (okS (SV.v (Value.string x6)))) (nameF (IntKind.wrap IntKind.i64 ((12 : Int) + (IntKind.wrap IntKind.i64 (Int.tmod n (12 : Int)))))) fun x6 =>
            (bif (Bool.not (BEq.beq (ByteArray.toList x6) [])) then
              (Tree.leaf (SV.b false))
            else
              (Tree.letv (fun x7 => (okS (SV.agg [(SV.arr IntKind.u32 12 x7)]))) (writeF c (IntKind.wrap IntKind.i64 (Int.tmod n (12 : Int))) (0 : Int)) fun x7 =>
              (Tree.letv (fun x8 => (okS (SV.v (Value.int IntKind.u32 x8)))) (maskF (IntKind.wrap IntKind.i64 (Int.tmod n (12 : Int)))) fun x8 =>
              (Tree.letv (fun x9 => (okS (SV.v (Value.int IntKind.u32 x9)))) (maskF (IntKind.wrap IntKind.i64 ((12 : Int) + (IntKind.wrap IntKind.i64 (Int.tmod n (12 : Int)))))) fun x9 =>
              (bif (BEq.beq x9 (0 : Int)) then
                (Tree.letv (fun x10 => (okS (SV.agg [(SV.arr IntKind.u32 12 x10)]))) (writeF c (IntKind.wrap IntKind.i64 ((12 : Int) + (IntKind.wrap IntKind.i64 (Int.tmod n (12 : Int))))) v) fun x10 =>
                (bif (decide (x10 = c)) then
                  (Tree.letv (fun x11 => (okS (SV.agg [(SV.arr IntKind.u32 12 x11)]))) (writeF x7 (IntKind.wrap IntKind.i64 (Int.tmod n (12 : Int))) (IntKind.wrap IntKind.u32 (Int.ofNat (BitVec.toNat ((BitVec.ofInt 32 v) &&& (BitVec.ofInt 32 x8)))))) fun x11 =>
                  (Tree.letv (fun x12 => (okS (SV.agg [(SV.arr IntKind.u32 12 x12)]))) (writeF c (IntKind.wrap IntKind.i64 (Int.tmod n (12 : Int))) v) fun x12 =>
                  (bif (decide (x11 = x12)) then
                    (bif (inRange (IntKind.wrap IntKind.i64 (Int.tmod n (12 : Int))) 12) then
                      (bif (BEq.beq (IntKind.wrap IntKind.u32 (Int.ofNat (BitVec.toNat ((BitVec.ofInt 32 (List.getD x7 ((Int.toNat (IntKind.wrap IntKind.i64 (Int.tmod n (12 : Int))))) (0 : Int))) &&& (BitVec.ofInt 32 x8))))) (0 : Int)) then
                        (Tree.leaf (SV.b true))
                      else
                        (Tree.leaf (SV.b false)))
                    else
                      (Tree.fail))
                  else
                    (Tree.leaf (SV.b false)))))
                else
                  (Tree.leaf (SV.b false))))
              else
                (Tree.leaf (SV.b false))))))))))))))))
    else
      (bif (bne (IntKind.wrap IntKind.i64 (Int.tmod n (12 : Int))) (IntKind.wrap IntKind.i64 (Int.tmod m (12 : Int)))) then
        (Tree.letv (fun x1 => (okS (SV.v (Value.string x1)))) (nameF (IntKind.wrap IntKind.i64 (Int.tmod n (12 : Int)))) fun x1 =>
        (Tree.letv (fun x2 => (okS (SV.v (Value.string x2)))) (nameF (IntKind.wrap IntKind.i64 (Int.tmod m (12 : Int)))) fun x2 =>
        (bif (BEq.beq (ByteArray.toList x1) (ByteArray.toList x2)) then
          (Tree.leaf (SV.b false))
        else
          (Tree.letv (fun x3 => (okS (SV.v (Value.string x3)))) (nameF (IntKind.wrap IntKind.i64 (Int.tmod n (12 : Int)))) fun x3 =>
          (bif (BEq.beq (ByteArray.toList x3) []) then
            (Tree.leaf (SV.b false))
          else
            (Tree.letv (fun x4 => (okS (SV.v (Value.string x4)))) (nameF (IntKind.wrap IntKind.i64 ((12 : Int) + (IntKind.wrap IntKind.i64 (Int.tmod n (12 : Int)))))) fun x4 =>
            (bif (Bool.not (BEq.beq (ByteArray.toList x4) [])) then
              (Tree.leaf (SV.b false))
            else
              (Tree.letv (fun x5 => (okS (SV.agg [(SV.arr IntKind.u32 12 x5)]))) (writeF c (IntKind.wrap IntKind.i64 (Int.tmod n (12 : Int))) (0 : Int)) fun x5 =>
              (Tree.letv (fun x6 => (okS (SV.v (Value.int IntKind.u32 x6)))) (maskF (IntKind.wrap IntKind.i64 (Int.tmod n (12 : Int)))) fun x6 =>
              (Tree.letv (fun x7 => (okS (SV.v (Value.int IntKind.u32 x7)))) (maskF (IntKind.wrap IntKind.i64 ((12 : Int) + (IntKind.wrap IntKind.i64 (Int.tmod n (12 : Int)))))) fun x7 =>
              (bif (BEq.beq x7 (0 : Int)) then
                (Tree.letv (fun x8 => (okS (SV.agg [(SV.arr IntKind.u32 12 x8)]))) (writeF c (IntKind.wrap IntKind.i64 ((12 : Int) + (IntKind.wrap IntKind.i64 (Int.tmod n (12 : Int))))) v) fun x8 =>
                (bif (decide (x8 = c)) then
                  (Tree.letv (fun x9 => (okS (SV.agg [(SV.arr IntKind.u32 12 x9)]))) (writeF x5 (IntKind.wrap IntKind.i64 (Int.tmod n (12 : Int))) (IntKind.wrap IntKind.u32 (Int.ofNat (BitVec.toNat ((BitVec.ofInt 32 v) &&& (BitVec.ofInt 32 x6)))))) fun x9 =>
                  (Tree.letv (fun x10 => (okS (SV.agg [(SV.arr IntKind.u32 12 x10)]))) (writeF c (IntKind.wrap IntKind.i64 (Int.tmod n (12 : Int))) v) fun x10 =>
                  (bif (decide (x9 = x10)) then
                    (bif (inRange (IntKind.wrap IntKind.i64 (Int.tmod n (12 : Int))) 12) then
                      (bif (BEq.beq (IntKind.wrap IntKind.u32 (Int.ofNat (BitVec.toNat ((BitVec.ofInt 32 (List.getD x5 ((Int.toNat (IntKind.wrap IntKind.i64 (Int.tmod n (12 : Int))))) (0 : Int))) &&& (BitVec.ofInt 32 x6))))) (0 : Int)) then
                        (Tree.leaf (SV.b true))
                      else
                        (Tree.leaf (SV.b false)))
                    else
                      (Tree.fail))
                  else
                    (Tree.leaf (SV.b false)))))
                else
                  (Tree.leaf (SV.b false))))
              else
                (Tree.leaf (SV.b false)))))))))))))
      else
        (Tree.letv (fun x1 => (okS (SV.v (Value.string x1)))) (nameF (IntKind.wrap IntKind.i64 (Int.tmod n (12 : Int)))) fun x1 =>
        (bif (BEq.beq (ByteArray.toList x1) []) then
          (Tree.leaf (SV.b false))
        else
          (Tree.letv (fun x2 => (okS (SV.v (Value.string x2)))) (nameF (IntKind.wrap IntKind.i64 ((12 : Int) + (IntKind.wrap IntKind.i64 (Int.tmod n (12 : Int)))))) fun x2 =>
          (bif (Bool.not (BEq.beq (ByteArray.toList x2) [])) then
            (Tree.leaf (SV.b false))
          else
            (Tree.letv (fun x3 => (okS (SV.agg [(SV.arr IntKind.u32 12 x3)]))) (writeF c (IntKind.wrap IntKind.i64 (Int.tmod n (12 : Int))) (0 : Int)) fun x3 =>
            (Tree.letv (fun x4 => (okS (SV.v (Value.int IntKind.u32 x4)))) (maskF (IntKind.wrap IntKind.i64 (Int.tmod n (12 : Int)))) fun x4 =>
            (Tree.letv (fun x5 => (okS (SV.v (Value.int IntKind.u32 x5)))) (maskF (IntKind.wrap IntKind.i64 ((12 : Int) + (IntKind.wrap IntKind.i64 (Int.tmod n (12 : Int)))))) fun x5 =>
            (bif (BEq.beq x5 (0 : Int)) then
              (Tree.letv (fun x6 => (okS (SV.agg [(SV.arr IntKind.u32 12 x6)]))) (writeF c (IntKind.wrap IntKind.i64 ((12 : Int) + (IntKind.wrap IntKind.i64 (Int.tmod n (12 : Int))))) v) fun x6 =>
              (bif (decide (x6 = c)) then
                (Tree.letv (fun x7 => (okS (SV.agg [(SV.arr IntKind.u32 12 x7)]))) (writeF x3 (IntKind.wrap IntKind.i64 (Int.tmod n (12 : Int))) (IntKind.wrap IntKind.u32 (Int.ofNat (BitVec.toNat ((BitVec.ofInt 32 v) &&& (BitVec.ofInt 32 x4)))))) fun x7 =>
                (Tree.letv (fun x8 => (okS (SV.agg [(SV.arr IntKind.u32 12 x8)]))) (writeF c (IntKind.wrap IntKind.i64 (Int.tmod n (12 : Int))) v) fun x8 =>
                (bif (decide (x7 = x8)) then
                  (bif (inRange (IntKind.wrap IntKind.i64 (Int.tmod n (12 : Int))) 12) then
                    (bif (BEq.beq (IntKind.wrap IntKind.u32 (Int.ofNat (BitVec.toNat ((BitVec.ofInt 32 (List.getD x3 ((Int.toNat (IntKind.wrap IntKind.i64 (Int.tmod n (12 : Int))))) (0 : Int))) &&& (BitVec.ofInt 32 x4))))) (0 : Int)) then
                      (Tree.leaf (SV.b true))
                    else
                      (Tree.leaf (SV.b false)))
                  else
                    (Tree.fail))
                else
                  (Tree.leaf (SV.b false)))))
              else
                (Tree.leaf (SV.b false))))
            else
              (Tree.leaf (SV.b false))))))))))))
  else
    (Tree.leaf (SV.b false))) := by kernel_rfl
attribute [local irreducible] evF
theorem law6 (c : List Int) (n m v u : Int) (hc : c.length = 12) (h1 : okI .u8 n) (h2 : okI .u8 m) :
    (evF E3 60 6 [.agg [.arr .u32 12 c], svI .u8 n, svI .u8 m, svI .u32 v, svI .u32 u]).holds fun r => unb r = .v (.bool true) := by
  rw [t6]
  obtain ⟨a0, a1⟩ := okI_u8 h1
  obtain ⟨b0, b1⟩ := okI_u8 h2
  have hi : IntKind.i64.wrap (Int.tmod n 12) = n % 12 := by
    rw [Int.tmod_eq_emod_of_nonneg a0, wrapI64 (by omega) (by omega)]
  have hk : IntKind.i64.wrap (Int.tmod m 12) = m % 12 := by
    rw [Int.tmod_eq_emod_of_nonneg b0, wrapI64 (by omega) (by omega)]
  have i0 : 0 ≤ n % 12 := by omega
  have i1 : n % 12 < 12 := by omega
  have k0 : 0 ≤ m % 12 := by omega
  have k1 : m % 12 < 12 := by omega
  have hj : IntKind.i64.wrap (12 + n % 12) = 12 + n % 12 := wrapI64 (by omega) (by omega)
  have f1 := name_full i0 i1
  have f2 : nameF (12 + n % 12) = ⟨#[]⟩ := name_out (by omega)
  have f3 : maskF (12 + n % 12) = 0 := maskF_out (by omega)
  have f4 : writeF c (12 + n % 12) v = c := writeF_out v (by omega)
  have hl : (n % 12).toNat < c.length := by omega
  have f5 : writeF (writeF c (n % 12) 0) (n % 12) (IntKind.u32.wrap (Int.ofNat (BitVec.toNat ((BitVec.ofInt 32 v) &&& (BitVec.ofInt 32 (maskF (n % 12))))))) = writeF c (n % 12) v := by
    rw [writeF_in _ i0 i1, writeF_in _ i0 i1, writeF_in _ i0 i1, maskF_in i0 i1, getD_set_self _ hl, mix_mask, mix_last, List.set_set]
  have f6 : inRange (n % 12) 12 = true := inRange_in i0 i1
  have f7 : IntKind.u32.wrap (Int.ofNat (BitVec.toNat ((BitVec.ofInt 32 ((writeF c (n % 12) 0).getD (n % 12).toNat 0)) &&& (BitVec.ofInt 32 (maskF (n % 12)))))) = 0 := by
    rw [writeF_in _ i0 i1, maskF_in i0 i1, getD_set_self _ hl, mix_zero]
  by_cases hne : n % 12 = m % 12
  · have q : (n % 12 != m % 12) = false := by simpa using hne
    simp only [Tree.holds_letv, Tree.holds_cond, Tree.holds_leaf, Tree.holds_fail, hi, hk, hj, q, f1, f2, f3, f4, f5, f6, f7, no_bytes, cond_true, cond_false, beq_self_eq_true, decide_true, Bool.not_true]
    simp [unb, unbA, unb1]
  · have q : (n % 12 != m % 12) = true := by simpa using hne
    have g1 := write_commute (c := c) v u i0 i1 k0 k1 hne
    have g2 := name_ne i0 i1 k0 k1 hne
    simp only [Tree.holds_letv, Tree.holds_cond, Tree.holds_leaf, Tree.holds_fail, hi, hk, hj, q, g1, g2, f1, f2, f3, f4, f5, f6, f7, no_bytes, cond_true, cond_false, beq_self_eq_true, decide_true, Bool.not_true]
    simp [unb, unbA, unb1]
end Go.Proofs.YtjddjfapfhjheaaDoor
