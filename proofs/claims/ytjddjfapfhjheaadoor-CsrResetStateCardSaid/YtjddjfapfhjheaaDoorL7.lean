/- The law CsrResetState, by its tree (nothing is claimed here). -/
import Derived.Test.YtjddjfapfhjheaaDoorC3
set_option linter.unusedVariables false
set_option linter.unusedSimpArgs false
namespace Go.Proofs.YtjddjfapfhjheaaDoor
open Go
set_option maxRecDepth 100000
def sp7 (f : Nat) : Option Spec := match f with
  | 20 => none
  | f => sp3 f
noncomputable def E4 : Env := base sp7
theorem ok4 : EnvOk E4 := ⟨by kernel_rfl, (fun (f : Nat) S h => by
  have h' : sp7 f = some S := h
  unfold sp7 at h'
  split at h'
  · cases h'
  · exact ok3.spec f S h'), callees⟩
theorem t7 (time n : Int) : evF E4 60 7 [svI .u64 time, svI .u8 n] =
  Tree.letv (fun x0 => (okS (SV.v (Value.bool x0)))) true fun x0 =>
  (bif x0 then
    (Tree.letv (fun x1 => (okS (SV.v (Value.int IntKind.u64 x1)))) (cmpF [(1 : Int), (0 : Int), (0 : Int), (0 : Int), (0 : Int), (0 : Int), (0 : Int), (0 : Int), (0 : Int), (4294967295 : Int), (4294967295 : Int), (0 : Int)]) fun x1 =>
    (bif (decide (time ≥ x1)) then
      (bif (BEq.beq time (18446744073709551615 : Int)) then
        (bif (inRange (IntKind.wrap IntKind.i64 (Int.tmod n (12 : Int))) 12) then
          (Tree.letv (fun x2 => (okS (SV.agg [(SV.arr IntKind.u32 12 x2)]))) (writeF [(1 : Int), (0 : Int), (0 : Int), (0 : Int), (0 : Int), (0 : Int), (0 : Int), (0 : Int), (0 : Int), (4294967295 : Int), (4294967295 : Int), (0 : Int)] (IntKind.wrap IntKind.i64 (Int.tmod n (12 : Int))) (List.getD [(1 : Int), (0 : Int), (0 : Int), (0 : Int), (0 : Int), (0 : Int), (0 : Int), (0 : Int), (0 : Int), (4294967295 : Int), (4294967295 : Int), (0 : Int)] ((Int.toNat (IntKind.wrap IntKind.i64 (Int.tmod n (12 : Int))))) (0 : Int))) fun x2 =>
          (bif (decide (x2 = [(1 : Int), (0 : Int), (0 : Int), (0 : Int), (0 : Int), (0 : Int), (0 : Int), (0 : Int), (0 : Int), (4294967295 : Int), (4294967295 : Int), (0 : Int)])) then
            (Tree.letv (fun x3 => (okS (SV.v (Value.int IntKind.u32 x3)))) (readF [(1 : Int), (0 : Int), (0 : Int), (0 : Int), (0 : Int), (0 : Int), (0 : Int), (0 : Int), (0 : Int), (4294967295 : Int), (4294967295 : Int), (0 : Int)] (0 : Int) (IntKind.wrap IntKind.i64 (Int.tmod n (12 : Int)))) fun x3 =>
            (bif (inRange (IntKind.wrap IntKind.i64 (Int.tmod n (12 : Int))) 12) then
              (bif (BEq.beq x3 (List.getD [(1 : Int), (0 : Int), (0 : Int), (0 : Int), (0 : Int), (0 : Int), (0 : Int), (0 : Int), (0 : Int), (4294967295 : Int), (4294967295 : Int), (0 : Int)] ((Int.toNat (IntKind.wrap IntKind.i64 (Int.tmod n (12 : Int))))) (0 : Int))) then
                (Tree.leaf (SV.b true))
              else
                (Tree.leaf (SV.b false)))
            else
              (Tree.fail)))
          else
            (Tree.leaf (SV.b false))))
        else
          (Tree.fail))
      else
        (Tree.leaf (SV.b false)))
    else
      (bif (BEq.beq time (18446744073709551615 : Int)) then
        (Tree.leaf (SV.b false))
      else
        (bif (inRange (IntKind.wrap IntKind.i64 (Int.tmod n (12 : Int))) 12) then
          (Tree.letv (fun x2 => (okS (SV.agg [(SV.arr IntKind.u32 12 x2)]))) (writeF [(1 : Int), (0 : Int), (0 : Int), (0 : Int), (0 : Int), (0 : Int), (0 : Int), (0 : Int), (0 : Int), (4294967295 : Int), (4294967295 : Int), (0 : Int)] (IntKind.wrap IntKind.i64 (Int.tmod n (12 : Int))) (List.getD [(1 : Int), (0 : Int), (0 : Int), (0 : Int), (0 : Int), (0 : Int), (0 : Int), (0 : Int), (0 : Int), (4294967295 : Int), (4294967295 : Int), (0 : Int)] ((Int.toNat (IntKind.wrap IntKind.i64 (Int.tmod n (12 : Int))))) (0 : Int))) fun x2 =>
          (bif (decide (x2 = [(1 : Int), (0 : Int), (0 : Int), (0 : Int), (0 : Int), (0 : Int), (0 : Int), (0 : Int), (0 : Int), (4294967295 : Int), (4294967295 : Int), (0 : Int)])) then
            (Tree.letv (fun x3 => (okS (SV.v (Value.int IntKind.u32 x3)))) (readF [(1 : Int), (0 : Int), (0 : Int), (0 : Int), (0 : Int), (0 : Int), (0 : Int), (0 : Int), (0 : Int), (4294967295 : Int), (4294967295 : Int), (0 : Int)] (0 : Int) (IntKind.wrap IntKind.i64 (Int.tmod n (12 : Int)))) fun x3 =>
            (bif (inRange (IntKind.wrap IntKind.i64 (Int.tmod n (12 : Int))) 12) then
              (bif (BEq.beq x3 (List.getD [(1 : Int), (0 : Int), (0 : Int), (0 : Int), (0 : Int), (0 : Int), (0 : Int), (0 : Int), (0 : Int), (4294967295 : Int), (4294967295 : Int), (0 : Int)] ((Int.toNat (IntKind.wrap IntKind.i64 (Int.tmod n (12 : Int))))) (0 : Int))) then
                (Tree.leaf (SV.b true))
              else
                (Tree.leaf (SV.b false)))
            else
              (Tree.fail)))
          else
            (Tree.leaf (SV.b false))))
        else
          (Tree.fail)))))
  else
    (Tree.leaf (SV.b false))) := by kernel_rfl
attribute [local irreducible] evF
theorem rstCmp : cmpF [1, 0, 0, 0, 0, 0, 0, 0, 0, 4294967295, 4294967295, 0] = 18446744073709551615 := by kernel_rfl
theorem rstAll : (List.range 12).all (fun k => decide (writeF rst (.ofNat k) (rst.getD k 0) = rst) && (readF rst 0 (.ofNat k) == rst.getD k 0)) = true := by kernel_rfl
theorem law7 (time n : Int) (h1 : okI .u64 time) (h3 : okI .u8 n) :
    (evF E4 60 7 [svI .u64 time, svI .u8 n]).holds fun r => unb r = .v (.bool true) := by
  rw [t7]
  obtain ⟨a0, a1⟩ := okI_u64 h1
  obtain ⟨d0, d1⟩ := okI_u8 h3
  have hi : IntKind.i64.wrap (Int.tmod n 12) = n % 12 := by
    rw [Int.tmod_eq_emod_of_nonneg d0, wrapI64 (by omega) (by omega)]
  obtain ⟨k, hk⟩ := Int.eq_ofNat_of_zero_le (show 0 ≤ n % 12 by omega)
  have hk' : k < 12 := by omega
  have hall := List.all_eq_true.1 rstAll k (by simpa using hk')
  simp only [Bool.and_eq_true, rst] at hall
  obtain ⟨e1, e2⟩ := hall
  have e1 := of_decide_eq_true e1
  have e3 : inRange (n % 12) 12 = true := inRange_in (by omega) (by omega)
  have ek : (n % 12).toNat = k := by omega
  have ek' : n % 12 = Int.ofNat k := hk
  rw [ek'] at e3 ek hi
  have e4 : Int.toNat (Int.ofNat k) = k := rfl
  by_cases ht : time = 18446744073709551615
  · subst ht
    simp only [Tree.holds_letv, Tree.holds_cond, Tree.holds_leaf, Tree.holds_fail, hi, rstCmp, e1, e2, e3, e4, cond_true, cond_false, beq_self_eq_true, decide_true]
    simp [unb, unbA, unb1]
  · have q1 : (time == 18446744073709551615) = false := by simpa using ht
    have q2 : decide (time ≥ 18446744073709551615) = false := by simp; omega
    simp only [Tree.holds_letv, Tree.holds_cond, Tree.holds_leaf, Tree.holds_fail, hi, rstCmp, e1, e2, e3, e4, q1, q2, cond_true, cond_false, beq_self_eq_true, decide_true]
    simp [unb, unbA, unb1]
end Go.Proofs.YtjddjfapfhjheaaDoor
