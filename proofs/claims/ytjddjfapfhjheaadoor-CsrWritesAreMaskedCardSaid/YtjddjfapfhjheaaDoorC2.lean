/- The package csr, in plain Lean: what the laws need of its values (nothing is claimed here). -/
import Derived.Test.YtjddjfapfhjheaaDoorC1
set_option linter.unusedVariables false
set_option linter.unusedSimpArgs false
namespace Go.Proofs.YtjddjfapfhjheaaDoor
open Go
set_option maxRecDepth 100000

theorem wrap32 (n : Int) : IntKind.u32.wrap n = n % 4294967296 := by simp [IntKind.wrap, IntKind.bits, IntKind.signed]
theorem wrap64 (n : Int) : IntKind.u64.wrap n = n % 18446744073709551616 := by simp [IntKind.wrap, IntKind.bits, IntKind.signed]
theorem wrapI64 {n : Int} (h0 : 0 ≤ n) (h1 : n < 9223372036854775808) : IntKind.i64.wrap n = n := by
  simp only [IntKind.wrap, IntKind.bits, IntKind.signed, Bool.true_and, decide_eq_true_eq, Nat.reduceSub, Int.reducePow, ge_iff_le]
  split <;> omega
theorem okI_u8 {n : Int} (h : okI .u8 n) : 0 ≤ n ∧ n < 256 := by
  obtain ⟨a, b⟩ := h; simp [IntKind.min, IntKind.max, IntKind.signed, IntKind.bits] at a b; omega
theorem okI_u32 {n : Int} (h : okI .u32 n) : 0 ≤ n ∧ n < 4294967296 := by
  obtain ⟨a, b⟩ := h; simp [IntKind.min, IntKind.max, IntKind.signed, IntKind.bits] at a b; omega
theorem okI_u64 {n : Int} (h : okI .u64 n) : 0 ≤ n ∧ n < 18446744073709551616 := by
  obtain ⟨a, b⟩ := h; simp [IntKind.min, IntKind.max, IntKind.signed, IntKind.bits] at a b; omega
theorem ofInt32 {n : Int} (h0 : 0 ≤ n) : BitVec.ofInt 32 n = BitVec.ofNat 32 n.toNat := by
  obtain ⟨k, rfl⟩ := Int.eq_ofNat_of_zero_le h0
  rfl
theorem ofInt64 {n : Int} (h0 : 0 ≤ n) : BitVec.ofInt 64 n = BitVec.ofNat 64 n.toNat := by
  obtain ⟨k, rfl⟩ := Int.eq_ofNat_of_zero_le h0
  rfl
/-- the whole word is written -/
theorem mixW_all {x v : Int} (hv0 : 0 ≤ v) (hv1 : v < 4294967296) : mixW x v 4294967295 = v := by
  unfold mixW
  have h1 : (~~~ (BitVec.ofInt 32 4294967295)) = 0#32 := by decide
  have h2 : BitVec.ofInt 32 4294967295 = BitVec.allOnes 32 := by decide
  rw [h1, h2]
  simp only [BitVec.and_allOnes, BitVec.and_zero]
  rw [show (0#32).toNat = 0 from rfl]
  have hv : (BitVec.ofInt 32 v).toNat = v.toNat := by
    rw [ofInt32 hv0, BitVec.toNat_ofNat]; omega
  rw [hv, wrap32 (Int.ofNat v.toNat), wrap32 (Int.ofNat 0)]
  have h3 : (Int.ofNat v.toNat) % 4294967296 = v := by simp only [Int.ofNat_eq_natCast]; omega
  rw [h3, show (Int.ofNat 0 % 4294967296) = 0 from rfl, show BitVec.ofInt 32 0 = 0#32 from rfl, BitVec.zero_or, hv, wrap32, h3]
/-- a clock's two halves -/
theorem cmpF_two {c : List Int} {hi lo : Int} (h9 : c.getD 9 0 = lo) (h10 : c.getD 10 0 = hi) (a0 : 0 ≤ hi) (a1 : hi < 4294967296) (b0 : 0 ≤ lo) (b1 : lo < 4294967296) : cmpF c = hi * 4294967296 + lo := by
  unfold cmpF
  rw [h9, h10, wrap64 hi, wrap64 lo]
  have e1 : hi % 18446744073709551616 = hi := by omega
  have e2 : lo % 18446744073709551616 = lo := by omega
  rw [e1, e2, wrap64 (hi * 4294967296)]
  have e3 : hi * 4294967296 % 18446744073709551616 = hi * 4294967296 := by omega
  rw [e3, ofInt64 (by omega), ofInt64 b0, BitVec.toNat_or, BitVec.toNat_ofNat, BitVec.toNat_ofNat]
  have e4 : (hi * 4294967296).toNat % 2 ^ 64 = 2 ^ 32 * hi.toNat := by omega
  have e5 : lo.toNat % 2 ^ 64 = lo.toNat := by omega
  rw [e4, e5, ← Nat.two_pow_add_eq_or_of_lt (by omega), wrap64]
  simp only [Int.ofNat_eq_natCast]
  omega
theorem numName0 : numF (nameF 0) = (0, true) := by kernel_rfl
theorem numName1 : numF (nameF 1) = (1, true) := by kernel_rfl
theorem numName2 : numF (nameF 2) = (2, true) := by kernel_rfl
theorem numName3 : numF (nameF 3) = (3, true) := by kernel_rfl
theorem numName4 : numF (nameF 4) = (4, true) := by kernel_rfl
theorem numName5 : numF (nameF 5) = (5, true) := by kernel_rfl
theorem numName6 : numF (nameF 6) = (6, true) := by kernel_rfl
theorem numName7 : numF (nameF 7) = (7, true) := by kernel_rfl
theorem numName8 : numF (nameF 8) = (8, true) := by kernel_rfl
theorem numName9 : numF (nameF 9) = (9, true) := by kernel_rfl
theorem numName10 : numF (nameF 10) = (10, true) := by kernel_rfl
theorem numName11 : numF (nameF 11) = (11, true) := by kernel_rfl
theorem numName {i : Int} (h0 : 0 ≤ i) (h1 : i < 12) : numF (nameF i) = (i, true) := by
  have : i = 0 ∨ i = 1 ∨ i = 2 ∨ i = 3 ∨ i = 4 ∨ i = 5 ∨ i = 6 ∨ i = 7 ∨ i = 8 ∨ i = 9 ∨ i = 10 ∨ i = 11 := by omega
  rcases this with rfl | rfl | rfl | rfl | rfl | rfl | rfl | rfl | rfl | rfl | rfl | rfl
  · exact numName0
  · exact numName1
  · exact numName2
  · exact numName3
  · exact numName4
  · exact numName5
  · exact numName6
  · exact numName7
  · exact numName8
  · exact numName9
  · exact numName10
  · exact numName11
theorem numNone : numF ⟨#[]⟩ = (0, false) := by kernel_rfl
end Go.Proofs.YtjddjfapfhjheaaDoor
