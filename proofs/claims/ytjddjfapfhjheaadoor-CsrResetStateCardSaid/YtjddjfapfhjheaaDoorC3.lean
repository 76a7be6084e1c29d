/- The package csr, in plain Lean: masked writes (nothing is claimed here). -/
import Derived.Test.YtjddjfapfhjheaaDoorC2
set_option linter.unusedVariables false
set_option linter.unusedSimpArgs false
namespace Go.Proofs.YtjddjfapfhjheaaDoor
open Go
set_option maxRecDepth 100000

theorem wrap_toNat (b : BitVec 32) : IntKind.u32.wrap (Int.ofNat b.toNat) = (b.toNat : Int) := by
  rw [wrap32]; have := b.isLt; simp only [Int.ofNat_eq_natCast]; omega
theorem ofInt_toNat (b : BitVec 32) : BitVec.ofInt 32 (b.toNat : Int) = b := by
  rw [ofInt32 (by omega)]; apply BitVec.eq_of_toNat_eq; rw [BitVec.toNat_ofNat]; have := b.isLt; omega
theorem toNat_ofInt {n : Int} (h0 : 0 ≤ n) (h1 : n < 4294967296) : ((BitVec.ofInt 32 n).toNat : Int) = n := by
  rw [ofInt32 h0, BitVec.toNat_ofNat]; omega
/-- a masked word -/
theorem mixW_eq (x v m : Int) : mixW x v m = ((((BitVec.ofInt 32 x &&& ~~~ BitVec.ofInt 32 m) ||| (BitVec.ofInt 32 v &&& BitVec.ofInt 32 m)).toNat : Nat) : Int) := by
  unfold mixW
  rw [wrap_toNat, wrap_toNat, wrap_toNat, ofInt_toNat, ofInt_toNat]
theorem bv_last (x v u m : BitVec 32) : ((((x &&& ~~~ m) ||| (v &&& m)) &&& ~~~ m) ||| (u &&& m)) = ((x &&& ~~~ m) ||| (u &&& m)) := by
  ext i hi
  simp only [BitVec.getElem_or, BitVec.getElem_and, BitVec.getElem_not]
  cases x[i] <;> cases v[i] <;> cases u[i] <;> cases m[i] <;> rfl
theorem bv_back (x v m : BitVec 32) : ((((x &&& ~~~ m) ||| (v &&& m)) &&& ~~~ m) ||| (x &&& m)) = x := by
  ext i hi
  simp only [BitVec.getElem_or, BitVec.getElem_and, BitVec.getElem_not]
  cases x[i] <;> cases v[i] <;> cases m[i] <;> rfl
theorem bv_mask (x v m : BitVec 32) : ((x &&& ~~~ m) ||| ((v &&& m) &&& m)) = ((x &&& ~~~ m) ||| (v &&& m)) := by
  ext i hi
  simp only [BitVec.getElem_or, BitVec.getElem_and, BitVec.getElem_not]
  cases x[i] <;> cases v[i] <;> cases m[i] <;> rfl
theorem bv_zero (x m : BitVec 32) : (((x &&& ~~~ m) ||| (0#32 &&& m)) &&& m) = 0#32 := by
  ext i hi
  simp only [BitVec.getElem_or, BitVec.getElem_and, BitVec.getElem_not, BitVec.getElem_zero]
  cases x[i] <;> cases m[i] <;> rfl
theorem bv_add (x v m : BitVec 32) : ((x &&& ~~~ m) ||| (v &&& m)) = (v &&& m) + (x &&& ~~~ m) := by
  rw [BitVec.add_eq_or_of_and_eq_zero]
  · exact BitVec.or_comm _ _
  · ext i hi
    simp only [BitVec.getElem_or, BitVec.getElem_and, BitVec.getElem_not, BitVec.getElem_zero]
    cases x[i] <;> cases v[i] <;> cases m[i] <;> rfl
theorem mix_last (x v u m : Int) : mixW (mixW x v m) u m = mixW x u m := by
  rw [mixW_eq, mixW_eq x v m, mixW_eq x u m, ofInt_toNat, bv_last]
theorem mix_back {x : Int} (v m : Int) (h0 : 0 ≤ x) (h1 : x < 4294967296) : mixW (mixW x v m) x m = x := by
  rw [mixW_eq, mixW_eq x v m, ofInt_toNat, bv_back, toNat_ofInt h0 h1]
theorem mix_mask (x v m : Int) : mixW x (IntKind.u32.wrap (Int.ofNat (BitVec.toNat (BitVec.ofInt 32 v &&& BitVec.ofInt 32 m)))) m = mixW x v m := by
  rw [mixW_eq, mixW_eq, wrap_toNat, ofInt_toNat, bv_mask]
theorem mix_zero (x m : Int) : IntKind.u32.wrap (Int.ofNat (BitVec.toNat (BitVec.ofInt 32 (mixW x 0 m) &&& BitVec.ofInt 32 m))) = 0 := by
  rw [mixW_eq, wrap_toNat, ofInt_toNat, show BitVec.ofInt 32 0 = 0#32 from rfl, bv_zero]; rfl
theorem mix_none {x : Int} (v : Int) (h0 : 0 ≤ x) (h1 : x < 4294967296) : mixW x v 0 = x := by
  rw [mixW_eq, show BitVec.ofInt 32 0 = 0#32 from rfl, show (~~~ 0#32) = BitVec.allOnes 32 by decide, BitVec.and_allOnes, BitVec.and_zero, BitVec.or_zero, toNat_ofInt h0 h1]
theorem mix_range (x v m : Int) : 0 ≤ mixW x v m ∧ mixW x v m < 4294967296 := by
  rw [mixW_eq]
  have := ((BitVec.ofInt 32 x &&& ~~~ BitVec.ofInt 32 m) ||| (BitVec.ofInt 32 v &&& BitVec.ofInt 32 m)).isLt
  omega

theorem not_ofInt {m : Int} (h0 : 0 ≤ m) (h1 : m < 4294967296) : BitVec.ofInt 32 (IntKind.u32.wrap (4294967295 - m)) = ~~~ BitVec.ofInt 32 m := by
  rw [wrap32, Int.emod_eq_of_lt (by omega) (by omega), ofInt32 (by omega), ofInt32 h0]
  apply BitVec.eq_of_toNat_eq
  rw [BitVec.toNat_not, BitVec.toNat_ofNat, BitVec.toNat_ofNat]
  omega
theorem mix_add {m : Int} (x v : Int) (h0 : 0 ≤ m) (h1 : m < 4294967296) :
    mixW x v m = IntKind.u32.wrap (IntKind.u32.wrap (Int.ofNat (BitVec.toNat (BitVec.ofInt 32 v &&& BitVec.ofInt 32 m))) + IntKind.u32.wrap (Int.ofNat (BitVec.toNat (BitVec.ofInt 32 x &&& BitVec.ofInt 32 (IntKind.u32.wrap (4294967295 - m)))))) := by
  rw [not_ofInt h0 h1, wrap_toNat, wrap_toNat, mixW_eq, bv_add, BitVec.toNat_add, wrap32]
  omega

/-! numbers of registers -/
theorem isB_in {i : Int} (h0 : 0 ≤ i) (h1 : i < 12) : isB i = true := by unfold isB; simp; omega
theorem isB_out {i : Int} (h1 : 12 ≤ i) : isB i = false := by unfold isB; simp; omega
theorem inRange_in {i : Int} (h0 : 0 ≤ i) (h1 : i < 12) : inRange i 12 = true := isB_range (isB_in h0 h1)
theorem writeF_in {c : List Int} {i : Int} (v : Int) (h0 : 0 ≤ i) (h1 : i < 12) : writeF c i v = c.set i.toNat (mixW (c.getD i.toNat 0) v (mk.getD i.toNat 0)) := by
  unfold writeF; rw [isB_in h0 h1]; rfl
theorem writeF_out {c : List Int} {i : Int} (v : Int) (h1 : 12 ≤ i) : writeF c i v = c := by
  unfold writeF; rw [isB_out h1]; rfl
theorem maskF_in {i : Int} (h0 : 0 ≤ i) (h1 : i < 12) : maskF i = mk.getD i.toNat 0 := by
  unfold maskF; rw [isB_in h0 h1]; rfl
theorem maskF_out {i : Int} (h1 : 12 ≤ i) : maskF i = 0 := by
  unfold maskF; rw [isB_out h1]; rfl
theorem getD_set_self {c : List Int} {i : Nat} (v : Int) (h : i < c.length) : (c.set i v).getD i 0 = v := by
  simp [List.getD_eq_getElem?_getD, h]
theorem getD_set_other {c : List Int} {i j : Nat} (v : Int) (h : i ≠ j) : (c.set i v).getD j 0 = c.getD j 0 := by
  simp [List.getD_eq_getElem?_getD, List.getElem?_set_ne h]
theorem set_same {c : List Int} {i : Nat} (h : i < c.length) : c.set i (c.getD i 0) = c := by
  apply List.ext_getElem?
  intro j
  by_cases hj : i = j
  · subst hj
    rw [List.getElem?_set_self h, List.getD_eq_getElem?_getD, List.getElem?_eq_getElem h]; rfl
  · rw [List.getElem?_set_ne hj]
theorem write_commute {c : List Int} {i k : Int} (v u : Int) (hi0 : 0 ≤ i) (hi1 : i < 12) (hk0 : 0 ≤ k) (hk1 : k < 12) (hne : i ≠ k) : writeF (writeF c i v) k u = writeF (writeF c k u) i v := by
  rw [writeF_in v hi0 hi1, writeF_in u hk0 hk1, writeF_in u hk0 hk1, writeF_in v hi0 hi1]
  rw [getD_set_other _ (show i.toNat ≠ k.toNat by omega), getD_set_other _ (show k.toNat ≠ i.toNat by omega)]
  exact (List.set_comm _ _ (show k.toNat ≠ i.toNat by omega)).symm ▸ rfl
/-! names -/
theorem names_apart : (List.range 12).all (fun i => (List.range 12).all fun k => i == k || !((nameF (.ofNat i)).toList == (nameF (.ofNat k)).toList)) = true := by kernel_rfl
theorem names_full : (List.range 12).all (fun i => !((nameF (.ofNat i)).toList == [])) = true := by kernel_rfl
theorem name_ne {i k : Int} (hi0 : 0 ≤ i) (hi1 : i < 12) (hk0 : 0 ≤ k) (hk1 : k < 12) (hne : i ≠ k) : ((nameF i).toList == (nameF k).toList) = false := by
  obtain ⟨a, rfl⟩ := Int.eq_ofNat_of_zero_le hi0
  obtain ⟨b, rfl⟩ := Int.eq_ofNat_of_zero_le hk0
  have h1 := List.all_eq_true.1 names_apart a (by simp; omega)
  have h2 := List.all_eq_true.1 h1 b (by simp; omega)
  have h3 : (a == b) = false := by simp; omega
  rw [h3] at h2
  simpa using h2
theorem name_full {i : Int} (hi0 : 0 ≤ i) (hi1 : i < 12) : ((nameF i).toList == []) = false := by
  obtain ⟨a, rfl⟩ := Int.eq_ofNat_of_zero_le hi0
  have h1 := List.all_eq_true.1 names_full a (by simp; omega)
  simpa using h1
theorem name_out {i : Int} (hi : 12 ≤ i) : nameF i = ⟨#[]⟩ := by
  obtain ⟨a, rfl⟩ := Int.eq_ofNat_of_zero_le (show 0 ≤ i by omega)
  obtain ⟨m, rfl⟩ : ∃ m, a = m + 12 := ⟨a - 12, by omega⟩
  exact nameF_out m
theorem no_bytes : (ByteArray.toList ⟨#[]⟩ == []) = true := by kernel_rfl
end Go.Proofs.YtjddjfapfhjheaaDoor
