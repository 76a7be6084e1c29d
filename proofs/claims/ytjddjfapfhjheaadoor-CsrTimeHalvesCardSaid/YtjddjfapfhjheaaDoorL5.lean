/- The law CsrTimeHalves, by its tree (nothing is claimed here). -/
import Derived.Test.YtjddjfapfhjheaaDoorC2
set_option linter.unusedVariables false
set_option linter.unusedSimpArgs false
namespace Go.Proofs.YtjddjfapfhjheaaDoor
open Go
set_option maxRecDepth 100000
theorem t5 (c : List Int) (time «at» n : Int) : evF E3 60 5 [.agg [.arr .u32 12 c], svI .u64 time, svI .u64 «at», svI .u8 n] =
  Tree.letv (fun x0 => (okS (SV.v (Value.bool x0)))) true fun x0 =>
  (bif x0 then
    (Tree.letv (fun x1 => (okS (SV.v (Value.int IntKind.u32 x1)))) (readF c time (7 : Int)) fun x1 =>
    (Tree.letv (fun x2 => (okS (SV.v (Value.int IntKind.u32 x2)))) (readF c time (8 : Int)) fun x2 =>
    (Tree.letv (fun x3 => (okS (SV.agg [(SV.arr IntKind.u32 12 x3)]))) (writeF c (9 : Int) (IntKind.wrap IntKind.u32 (Int.tmod «at» (4294967296 : Int)))) fun x3 =>
    (Tree.letv (fun x4 => (okS (SV.agg [(SV.arr IntKind.u32 12 x4)]))) (writeF x3 (10 : Int) (IntKind.wrap IntKind.u32 (IntKind.wrap IntKind.u64 (Int.tdiv «at» (4294967296 : Int))))) fun x4 =>
    (Tree.letv (fun x5 => (okS (SV.v (Value.string x5)))) (nameF (IntKind.wrap IntKind.i64 (Int.tmod n (12 : Int)))) fun x5 =>
    (Tree.letv (fun x6 => (okS (SV.tup [(SV.v (Value.int IntKind.i64 x6.fst)), (SV.v (Value.bool x6.snd))]))) (numF x5) fun x6 =>
    (bif x6.snd then
      (Tree.letv (fun x7 => (okS (SV.tup [(SV.v (Value.int IntKind.i64 x7.fst)), (SV.v (Value.bool x7.snd))]))) (numF (ByteArray.mk #[])) fun x7 =>
      (bif x7.snd then
        (bif (BEq.beq (IntKind.wrap IntKind.u64 ((IntKind.wrap IntKind.u64 ((IntKind.wrap IntKind.u64 x2) * (4294967296 : Int))) + (IntKind.wrap IntKind.u64 x1))) time) then
          (Tree.letv (fun x8 => (okS (SV.v (Value.int IntKind.u64 x8)))) (cmpF x4) fun x8 =>
          (bif (BEq.beq x8 «at») then
            (bif (BEq.beq x6.fst (IntKind.wrap IntKind.i64 (Int.tmod n (12 : Int)))) then
              (Tree.leaf (SV.b false))
            else
              (Tree.leaf (SV.b false)))
          else
            (Tree.leaf (SV.b false))))
        else
          (Tree.leaf (SV.b false)))
      else
        (bif (BEq.beq (IntKind.wrap IntKind.u64 ((IntKind.wrap IntKind.u64 ((IntKind.wrap IntKind.u64 x2) * (4294967296 : Int))) + (IntKind.wrap IntKind.u64 x1))) time) then
          (Tree.letv (fun x8 => (okS (SV.v (Value.int IntKind.u64 x8)))) (cmpF x4) fun x8 =>
          (bif (BEq.beq x8 «at») then
            (bif (BEq.beq x6.fst (IntKind.wrap IntKind.i64 (Int.tmod n (12 : Int)))) then
              (Tree.leaf (SV.b true))
            else
              (Tree.leaf (SV.b false)))
          else
            (Tree.leaf (SV.b false))))
        else
          (Tree.leaf (SV.b false)))))
    else
      (Tree.letv (fun x7 => (okS (SV.tup [(SV.v (Value.int IntKind.i64 x7.fst)), (SV.v (Value.bool x7.snd))]))) (numF (ByteArray.mk #[])) fun x7 =>
      (bif x7.snd then
        (bif (BEq.beq (IntKind.wrap IntKind.u64 ((IntKind.wrap IntKind.u64 ((IntKind.wrap IntKind.u64 x2) * (4294967296 : Int))) + (IntKind.wrap IntKind.u64 x1))) time) then
          (Tree.letv (fun x8 => (okS (SV.v (Value.int IntKind.u64 x8)))) (cmpF x4) fun x8 =>
          (bif (BEq.beq x8 «at») then
            (Tree.leaf (SV.b false))
          else
            (Tree.leaf (SV.b false))))
        else
          (Tree.leaf (SV.b false)))
      else
        (bif (BEq.beq (IntKind.wrap IntKind.u64 ((IntKind.wrap IntKind.u64 ((IntKind.wrap IntKind.u64 x2) * (4294967296 : Int))) + (IntKind.wrap IntKind.u64 x1))) time) then
          (Tree.letv (fun x8 => (okS (SV.v (Value.int IntKind.u64 x8)))) (cmpF x4) fun x8 =>
          (bif (BEq.beq x8 «at») then
            (Tree.leaf (SV.b false))
          else
            (Tree.leaf (SV.b false))))
        else
          (Tree.leaf (SV.b false))))))))))))
  else
    (Tree.leaf (SV.b false))) := by kernel_rfl
attribute [local irreducible] evF
theorem law5 (c : List Int) (time t n : Int) (hc : c.length = 12) (h1 : okI .u64 time) (h2 : okI .u64 t) (h3 : okI .u8 n) :
    (evF E3 60 5 [.agg [.arr .u32 12 c], svI .u64 time, svI .u64 t, svI .u8 n]).holds fun r => unb r = .v (.bool true) := by
  rw [t5]
  obtain ⟨a0, a1⟩ := okI_u64 h1
  obtain ⟨b0, b1⟩ := okI_u64 h2
  obtain ⟨d0, d1⟩ := okI_u8 h3
  have hi : IntKind.i64.wrap (Int.tmod n 12) = n % 12 := by
    rw [Int.tmod_eq_emod_of_nonneg d0, wrapI64 (by omega) (by omega)]
  have hlo : IntKind.u32.wrap (Int.tmod t 4294967296) = t % 4294967296 := by
    rw [Int.tmod_eq_emod_of_nonneg b0, wrap32]; omega
  have hhi : IntKind.u32.wrap (IntKind.u64.wrap (Int.tdiv t 4294967296)) = t / 4294967296 := by
    rw [Int.tdiv_eq_ediv_of_nonneg b0, wrap64, wrap32]; omega
  have e1 : (IntKind.u64.wrap ((IntKind.u64.wrap ((IntKind.u64.wrap (readF c time 8)) * (4294967296 : Int))) + (IntKind.u64.wrap (readF c time 7))) == time) = true := by
    have r8 : readF c time 8 = time / 4294967296 := by
      show IntKind.u32.wrap (Int.fdiv time 4294967296) = _
      rw [Int.fdiv_eq_ediv_of_nonneg _ (by omega), wrap32]; omega
    have r7 : readF c time 7 = time % 4294967296 := by
      show IntKind.u32.wrap time = _
      rw [wrap32]
    rw [r8, r7]
    simp only [wrap64, beq_iff_eq]
    omega
  have w9 : writeF c 9 (t % 4294967296) = c.set 9 (t % 4294967296) := by
    show c.set 9 (mixW _ _ 4294967295) = _
    rw [mixW_all (by omega) (by omega)]
  have w10 : ∀ d : List Int, writeF d 10 (t / 4294967296) = d.set 10 (t / 4294967296) := fun d => by
    show d.set 10 (mixW _ _ 4294967295) = _
    rw [mixW_all (by omega) (by omega)]
  have e2 : (cmpF (writeF (writeF c 9 (t % 4294967296)) 10 (t / 4294967296)) == t) = true := by
    rw [w9, w10, cmpF_two (hi := t / 4294967296) (lo := t % 4294967296) (by simp [List.getD_eq_getElem?_getD, hc]) (by simp [List.getD_eq_getElem?_getD, hc]) (by omega) (by omega) (by omega) (by omega)]
    simp only [beq_iff_eq]
    omega
  have e3 := numName (i := n % 12) (by omega) (by omega)
  simp only [Tree.holds_letv, Tree.holds_cond, Tree.holds_leaf, Tree.holds_fail, hi, hlo, hhi, e1, e2, e3, numNone, cond_true, cond_false, beq_self_eq_true]
  simp [unb, unbA, unb1]
end Go.Proofs.YtjddjfapfhjheaaDoor
