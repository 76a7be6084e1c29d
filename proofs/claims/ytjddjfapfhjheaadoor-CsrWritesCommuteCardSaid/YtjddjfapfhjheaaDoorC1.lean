/- Contracts of the package csr (nothing is claimed here). -/
import Derived.Test.YtjddjfapfhjheaaDoorSh22
import Derived.Test.YtjddjfapfhjheaaDoorProg
import Derived.KernelRfl
set_option linter.unusedVariables false
set_option linter.unusedSimpArgs false
namespace Go.Proofs.YtjddjfapfhjheaaDoor
open Go
def ety : TypeId → Option ETy
  | 9 => some .str
  | 22 => some .u32
  | _ => none
def nameL : List ByteArray := [⟨#[115, 116, 97, 116, 117, 115]⟩, ⟨#[101, 112, 99]⟩, ⟨#[99, 97, 117, 115, 101]⟩, ⟨#[116, 118, 97, 108]⟩, ⟨#[116, 118, 101, 99]⟩, ⟨#[98, 97, 115, 101]⟩, ⟨#[98, 111, 117, 110, 100]⟩, ⟨#[116, 105, 109, 101]⟩, ⟨#[116, 105, 109, 101, 104]⟩, ⟨#[99, 109, 112]⟩, ⟨#[99, 109, 112, 104]⟩, ⟨#[115, 99, 114, 97, 116, 99, 104]⟩]
def mk : List Int := [14,4294967292,4294967295,4294967295,4294967292,4294967292,4294967295,0,0,4294967295,4294967295,4294967295]
def isB (n : Int) : Bool := decide (n ≥ 0) && decide (n < 12)
def nameF : Int → ByteArray
  | .ofNat k => nameL.getD k ⟨#[]⟩
  | .negSucc _ => ⟨#[]⟩
def num (s : List UInt8) : Int → List ByteArray → Int × Bool
  | _, [] => (0, false)
  | i, x :: r => bif s == x.toList then (i, true) else num s (i + 1) r
def numT (s : List UInt8) : Int → List ByteArray → Tree
  | _, [] => .leaf (.tup [.v (.int .i64 0), .b false])
  | i, x :: r => bif s == x.toList then .leaf (.tup [.v (.int .i64 i), .b true]) else numT s (i + 1) r
def numF (s : ByteArray) : Int × Bool := num s.toList 0 nameL
def maskF (n : Int) : Int := bif isB n then mk.getD n.toNat 0 else 0
def readF (c : List Int) (time n : Int) : Int := bif n == 7 then IntKind.u32.wrap time else bif n == 8 then IntKind.u32.wrap (Int.fdiv time 4294967296) else bif isB n then c.getD n.toNat 0 else 0
def mixW (x v m : Int) : Int := IntKind.u32.wrap (Int.ofNat (BitVec.toNat ((BitVec.ofInt 32 (IntKind.u32.wrap (Int.ofNat (BitVec.toNat ((BitVec.ofInt 32 x) &&& (~~~ (BitVec.ofInt 32 m))))))) ||| (BitVec.ofInt 32 (IntKind.u32.wrap (Int.ofNat (BitVec.toNat ((BitVec.ofInt 32 v) &&& (BitVec.ofInt 32 m)))))))))
def writeF (c : List Int) (n v : Int) : List Int := bif isB n then c.set n.toNat (mixW (c.getD n.toNat 0) v (mk.getD n.toNat 0)) else c
def cmpF (c : List Int) : Int := IntKind.u64.wrap (Int.ofNat (BitVec.toNat ((BitVec.ofInt 64 (IntKind.u64.wrap ((IntKind.u64.wrap (c.getD 10 0)) * (4294967296 : Int)))) ||| (BitVec.ofInt 64 (IntKind.u64.wrap (c.getD 9 0))))))
def rst : List Int := [1, 0, 0, 0, 0, 0, 0, 0, 0, 4294967295, 4294967295, 0]
def csrS (l : List Int) : SV := .agg [.arr .u32 12 l]
def sMasks : Spec := mkSpec (List Int) (fun | [] => some (true, mk) | _ => none) fun l => .agg [.arr .u32 12 l]
def sIs : Spec := mkSpec Bool (fun | [.v (.int .i64 n)] => some (true, isB n) | _ => none) fun q => .v (.bool q)
def sName : Spec := mkSpec ByteArray (fun | [.v (.int .i64 n)] => some (true, nameF n) | _ => none) fun s => .v (.string s)
def sNumber : Spec := mkSpec (Int × Bool) (fun | [.v (.string s)] => some (true, numF s) | _ => none) fun p => .tup [.v (.int .i64 p.1), .v (.bool p.2)]
def sMask : Spec := mkSpec Int (fun | [.v (.int .i64 n)] => some (true, maskF n) | _ => none) fun m => .v (.int .u32 m)
def sRead : Spec := mkSpec Int (fun | [.agg [.arr .u32 12 c], .v (.int .u64 time), .v (.int .i64 n)] => some (true, readF c time n) | _ => none) fun m => .v (.int .u32 m)
def sWrite : Spec := mkSpec (List Int) (fun | [.agg [.arr .u32 12 c], .v (.int .i64 n), .v (.int .u32 v)] => some (true, writeF c n v) | _ => none) fun l => .agg [.arr .u32 12 l]
def sCmp : Spec := mkSpec Int (fun | [.agg [.arr .u32 12 c]] => some (true, cmpF c) | _ => none) fun m => .v (.int .u64 m)
def sReset : Spec := mkSpec (List Int) (fun | [] => some (true, rst) | _ => none) fun l => .agg [.arr .u32 12 l]
noncomputable def base (spec : FuncId → Option Spec) : Env := { P := Tryd.prog, ety := ety, glob := fun g => bif Nat.beq g 0 then some (nameL.map fun s => .v (.string s)) else none, spec := spec, callee := fun f => Nat.ble 8 f && Nat.ble f 25 }
noncomputable def E0 : Env := base fun _ => none
noncomputable def E1 : Env := base fun f => bif Nat.beq f 24 then some sMasks else bif Nat.beq f 23 then some sIs else none
def sp2 (f : Nat) : Option Spec := match f with
  | 24 => some sMasks | 23 => some sIs | 11 => some sName | 9 => some sNumber | 12 => some sMask | 14 => some sRead | 16 => some sWrite | 18 => some sCmp | 20 => some sReset | _ => none
noncomputable def E2 : Env := base sp2
theorem callees : ∀ f, (Nat.ble 8 f && Nat.ble f 25) = true → ∀ args w, (callFunc f args).run Tryd.prog w = .ok (.enter f args) w := fun f h args w => by
  have h1 : 8 ≤ f ∧ f ≤ 25 := by simpa using h
  obtain ⟨a, b⟩ := h1
  have : f = 8 ∨ f = 9 ∨ f = 10 ∨ f = 11 ∨ f = 12 ∨ f = 13 ∨ f = 14 ∨ f = 15 ∨ f = 16 ∨ f = 17 ∨ f = 18 ∨ f = 19 ∨ f = 20 ∨ f = 21 ∨ f = 22 ∨ f = 23 ∨ f = 24 ∨ f = 25 := by omega
  rcases this with rfl | rfl | rfl | rfl | rfl | rfl | rfl | rfl | rfl | rfl | rfl | rfl | rfl | rfl | rfl | rfl | rfl | rfl
  · exact Tryd.call8 _ _
  · exact Tryd.call9 _ _
  · exact Tryd.call10 _ _
  · exact Tryd.call11 _ _
  · exact Tryd.call12 _ _
  · exact Tryd.call13 _ _
  · exact Tryd.call14 _ _
  · exact Tryd.call15 _ _
  · exact Tryd.call16 _ _
  · exact Tryd.call17 _ _
  · exact Tryd.call18 _ _
  · exact Tryd.call19 _ _
  · exact Tryd.call20 _ _
  · exact Tryd.call21 _ _
  · exact Tryd.call22 _ _
  · exact Tryd.call23 _ _
  · exact Tryd.call24 _ _
  · exact Tryd.call25 _ _
set_option maxRecDepth 100000
theorem ok0 : EnvOk E0 := ⟨by kernel_rfl, (fun f S h => by cases h), callees⟩
theorem t24 : evF E0 60 24 [] = .leaf (.agg [.arr .u32 12 mk]) := by kernel_rfl
theorem t20 : evF E0 60 20 [] = .leaf (.agg [.arr .u32 12 rst]) := by kernel_rfl
theorem t23 (n : Int) : evF E1 60 23 [svI .i64 n] =
  bif (decide (n ≥ (0 : Int))) then
    (bif (decide (n < (12 : Int))) then
      (Tree.leaf (SV.b true))
    else
      (Tree.leaf (SV.b false)))
  else
    (Tree.leaf (SV.b false)) := by kernel_rfl
theorem t16 (c : List Int) (n v : Int) : evF E1 60 16 [.agg [.arr .u32 12 c], svI .i64 n, svI .u32 v] =
  Tree.letv (fun x0 => (okS (SV.v (Value.bool x0)))) (isB n) fun x0 =>
  (bif x0 then
    (bif (inRange n 12) then
      (Tree.letv (fun x1 => (okS (SV.agg [(SV.arr IntKind.u32 12 x1)]))) [(14 : Int), (4294967292 : Int), (4294967295 : Int), (4294967295 : Int), (4294967292 : Int), (4294967292 : Int), (4294967295 : Int), (0 : Int), (0 : Int), (4294967295 : Int), (4294967295 : Int), (4294967295 : Int)] fun x1 =>
      (bif (inRange n 12) then
        (Tree.letv (fun x2 => (okS (SV.agg [(SV.arr IntKind.u32 12 x2)]))) [(14 : Int), (4294967292 : Int), (4294967295 : Int), (4294967295 : Int), (4294967292 : Int), (4294967292 : Int), (4294967295 : Int), (0 : Int), (0 : Int), (4294967295 : Int), (4294967295 : Int), (4294967295 : Int)] fun x2 =>
        (bif (inRange n 12) then
          (bif (inRange n 12) then
            (Tree.leaf (SV.agg [(SV.arr IntKind.u32 12 (List.set c ((Int.toNat n)) (IntKind.wrap IntKind.u32 (Int.ofNat (BitVec.toNat ((BitVec.ofInt 32 (IntKind.wrap IntKind.u32 (Int.ofNat (BitVec.toNat ((BitVec.ofInt 32 (List.getD c ((Int.toNat n)) (0 : Int))) &&& (~~~ (BitVec.ofInt 32 (List.getD x1 ((Int.toNat n)) (0 : Int))))))))) ||| (BitVec.ofInt 32 (IntKind.wrap IntKind.u32 (Int.ofNat (BitVec.toNat ((BitVec.ofInt 32 v) &&& (BitVec.ofInt 32 (List.getD x2 ((Int.toNat n)) (0 : Int))))))))))))))]))
          else
            (Tree.fail))
        else
          (Tree.fail)))
      else
        (Tree.fail)))
    else
      (Tree.fail))
  else
    (Tree.leaf (SV.agg [(SV.arr IntKind.u32 12 c)]))) := by kernel_rfl
theorem t12 (n : Int) : evF E1 60 12 [svI .i64 n] =
  Tree.letv (fun x0 => (okS (SV.v (Value.bool x0)))) (isB n) fun x0 =>
  (bif x0 then
    (Tree.letv (fun x1 => (okS (SV.agg [(SV.arr IntKind.u32 12 x1)]))) [(14 : Int), (4294967292 : Int), (4294967295 : Int), (4294967295 : Int), (4294967292 : Int), (4294967292 : Int), (4294967295 : Int), (0 : Int), (0 : Int), (4294967295 : Int), (4294967295 : Int), (4294967295 : Int)] fun x1 =>
    (bif (inRange n 12) then
      (Tree.leaf (SV.v (Value.int IntKind.u32 (List.getD x1 ((Int.toNat n)) (0 : Int)))))
    else
      (Tree.fail)))
  else
    (Tree.leaf (SV.v (Value.int IntKind.u32 (0 : Int))))) := by kernel_rfl
theorem t14 (c : List Int) (time n : Int) : evF E1 60 14 [.agg [.arr .u32 12 c], svI .u64 time, svI .i64 n] =
  bif (BEq.beq n (7 : Int)) then
    (Tree.leaf (SV.v (Value.int IntKind.u32 (IntKind.wrap IntKind.u32 time))))
  else
    (bif (BEq.beq n (8 : Int)) then
      (Tree.leaf (SV.v (Value.int IntKind.u32 (IntKind.wrap IntKind.u32 (Int.fdiv time (4294967296 : Int))))))
    else
      (Tree.letv (fun x0 => (okS (SV.v (Value.bool x0)))) (isB n) fun x0 =>
      (bif x0 then
        (bif (inRange n 12) then
          (Tree.leaf (SV.v (Value.int IntKind.u32 (List.getD c ((Int.toNat n)) (0 : Int)))))
        else
          (Tree.fail))
      else
        (Tree.leaf (SV.v (Value.int IntKind.u32 (0 : Int))))))) := by kernel_rfl
theorem t18 (c : List Int) : evF E1 60 18 [.agg [.arr .u32 12 c]] =
  Tree.leaf (SV.v (Value.int IntKind.u64 (IntKind.wrap IntKind.u64 (Int.ofNat (BitVec.toNat ((BitVec.ofInt 64 (IntKind.wrap IntKind.u64 ((IntKind.wrap IntKind.u64 (List.getD c 10 (0 : Int))) * (4294967296 : Int)))) ||| (BitVec.ofInt 64 (IntKind.wrap IntKind.u64 (List.getD c 9 (0 : Int)))))))))) := by kernel_rfl
attribute [local irreducible] evF
theorem k24 : SpecOk E0 24 sMasks := spec_by ok0 (n := 60) fun svs x hx _ => by
  split at hx
  · cases hx; rw [t24]; exact rfl
  · cases hx
theorem k20 : SpecOk E0 20 sReset := spec_by ok0 (n := 60) fun svs x hx _ => by
  split at hx
  · cases hx; rw [t20]; exact rfl
  · cases hx
theorem k23 : SpecOk E0 23 sIs := spec_by ok0 (n := 60) fun svs x hx _ => by
  split at hx
  · cases hx
    rename_i n _
    have t : evF E0 60 23 [svI .i64 n] = (bif decide (n ≥ 0) then (bif decide (n < 12) then .leaf (.b true) else .leaf (.b false)) else .leaf (.b false)) := by kernel_rfl
    show (evF E0 60 23 [svI .i64 n]).holds _
    rw [t]
    unfold isB
    cases h1 : decide (n ≥ 0) <;> cases h2 : decide (n < 12) <;> exact rfl
  · cases hx
theorem ok1 : EnvOk E1 := ⟨by kernel_rfl, (fun (f : Nat) S h => by
  rcases Nat.lt_or_ge f 23 with h1 | h1
  · have : E1.spec f = none := by show (bif Nat.beq f 24 then _ else bif Nat.beq f 23 then _ else none) = none; rw [beq_ne (by omega), beq_ne (by omega)]; rfl
    rw [this] at h; cases h
  · rcases Nat.lt_or_ge f 25 with h2 | h2
    · have : f = 23 ∨ f = 24 := by omega
      rcases this with rfl | rfl
      · cases h; exact k23
      · cases h; exact k24
    · have : E1.spec f = none := by show (bif Nat.beq f 24 then _ else bif Nat.beq f 23 then _ else none) = none; rw [beq_ne (by omega), beq_ne (by omega)]; rfl
      rw [this] at h; cases h), callees⟩
theorem isB_range {n : Int} (h : isB n = true) : inRange n 12 = true := by
  unfold isB at h; unfold inRange
  simpa using h
theorem k16 : SpecOk E1 16 sWrite := spec_by ok1 (n := 60) fun svs x hx _ => by
  split at hx
  · cases hx
    rename_i c n v _
    show (evF E1 60 16 [.agg [.arr .u32 12 c], svI .i64 n, svI .u32 v]).holds _
    rw [t16]
    unfold writeF
    cases h : isB n with
    | true => simp only [Tree.holds_letv, Tree.holds_cond, Tree.holds_leaf, Tree.holds_fail, isB_range h, cond_true]; intro _; simp [mk, mixW]
    | false => simp only [Tree.holds_letv, Tree.holds_cond, Tree.holds_leaf, Tree.holds_fail, cond_false]; simp
  · cases hx
theorem k12 : SpecOk E1 12 sMask := spec_by ok1 (n := 60) fun svs x hx _ => by
  split at hx
  · cases hx
    rename_i n _
    show (evF E1 60 12 [svI .i64 n]).holds _
    rw [t12]
    unfold maskF
    cases h : isB n with
    | true => simp only [Tree.holds_letv, Tree.holds_cond, Tree.holds_leaf, Tree.holds_fail, isB_range h, cond_true]; intro _; simp [mk]
    | false => simp only [Tree.holds_letv, Tree.holds_cond, Tree.holds_leaf, Tree.holds_fail, cond_false]; simp
  · cases hx
theorem k14 : SpecOk E1 14 sRead := spec_by ok1 (n := 60) fun svs x hx _ => by
  split at hx
  · cases hx
    rename_i c time n _
    show (evF E1 60 14 [.agg [.arr .u32 12 c], svI .u64 time, svI .i64 n]).holds _
    rw [t14]
    unfold readF
    cases h7 : n == 7 <;> cases h8 : n == 8 <;> cases h : isB n <;> simp only [Tree.holds_letv, Tree.holds_cond, Tree.holds_leaf, Tree.holds_fail, h7, h8, h, isB_range, cond_true, cond_false] <;> simp
  · cases hx
theorem k18 : SpecOk E1 18 sCmp := spec_by ok1 (n := 60) fun svs x hx _ => by
  split at hx
  · cases hx
    show (evF E1 60 18 [.agg [.arr .u32 12 _]]).holds _
    rw [t18]
    rfl
  · cases hx
theorem t9' (s : ByteArray) : evF E1 60 9 [.v (.string s)] = numT s.toList 0 nameL := by kernel_rfl
theorem numT_ok (s : List UInt8) : ∀ (l : List ByteArray) (i : Int), (numT s i l).holds fun r => unb r = unb (.tup [.v (.int .i64 (num s i l).1), .v (.bool (num s i l).2)])
  | [], i => rfl
  | x :: r, i => by
    unfold numT num
    cases s == x.toList with
    | true => exact rfl
    | false => exact numT_ok s r (i + 1)
theorem k9 : SpecOk E1 9 sNumber := spec_by ok1 (n := 60) fun svs x hx _ => by
  split at hx
  · cases hx
    rename_i s _
    show (evF E1 60 9 [.v (.string s)]).holds _
    rw [t9']
    exact numT_ok _ _ _
  · cases hx
theorem n11 (m : Nat) : evF E0 60 11 [.v (.int .i64 (.negSucc m))] = .leaf (.v (.string ⟨#[]⟩)) := by kernel_rfl
theorem o11 (m : Nat) : evF E0 60 11 [.v (.int .i64 (.ofNat (m + 12)))] = .leaf (.v (.string ⟨#[]⟩)) := by kernel_rfl
theorem p11_0 : evF E0 60 11 [.v (.int .i64 (.ofNat 0))] = .leaf (.v (.string (nameF (.ofNat 0)))) := by kernel_rfl
theorem p11_1 : evF E0 60 11 [.v (.int .i64 (.ofNat 1))] = .leaf (.v (.string (nameF (.ofNat 1)))) := by kernel_rfl
theorem p11_2 : evF E0 60 11 [.v (.int .i64 (.ofNat 2))] = .leaf (.v (.string (nameF (.ofNat 2)))) := by kernel_rfl
theorem p11_3 : evF E0 60 11 [.v (.int .i64 (.ofNat 3))] = .leaf (.v (.string (nameF (.ofNat 3)))) := by kernel_rfl
theorem p11_4 : evF E0 60 11 [.v (.int .i64 (.ofNat 4))] = .leaf (.v (.string (nameF (.ofNat 4)))) := by kernel_rfl
theorem p11_5 : evF E0 60 11 [.v (.int .i64 (.ofNat 5))] = .leaf (.v (.string (nameF (.ofNat 5)))) := by kernel_rfl
theorem p11_6 : evF E0 60 11 [.v (.int .i64 (.ofNat 6))] = .leaf (.v (.string (nameF (.ofNat 6)))) := by kernel_rfl
theorem p11_7 : evF E0 60 11 [.v (.int .i64 (.ofNat 7))] = .leaf (.v (.string (nameF (.ofNat 7)))) := by kernel_rfl
theorem p11_8 : evF E0 60 11 [.v (.int .i64 (.ofNat 8))] = .leaf (.v (.string (nameF (.ofNat 8)))) := by kernel_rfl
theorem p11_9 : evF E0 60 11 [.v (.int .i64 (.ofNat 9))] = .leaf (.v (.string (nameF (.ofNat 9)))) := by kernel_rfl
theorem p11_10 : evF E0 60 11 [.v (.int .i64 (.ofNat 10))] = .leaf (.v (.string (nameF (.ofNat 10)))) := by kernel_rfl
theorem p11_11 : evF E0 60 11 [.v (.int .i64 (.ofNat 11))] = .leaf (.v (.string (nameF (.ofNat 11)))) := by kernel_rfl
theorem nameF_out (m : Nat) : nameF (.ofNat (m + 12)) = ⟨#[]⟩ := by
  show nameL.getD (m + 12) _ = _
  rw [List.getD_eq_getElem?_getD, List.getElem?_eq_none (by simp [nameL])]; rfl
theorem k11 : SpecOk E0 11 sName := spec_by ok0 (n := 60) fun svs x hx _ => by
  split at hx
  · cases hx
    rename_i n _
    show (evF E0 60 11 [.v (.int .i64 n)]).holds fun r => unb r = unb (.v (.string (nameF n)))
    cases n with
    | negSucc m => rw [n11]; rfl
    | ofNat k =>
      rcases Nat.lt_or_ge k 12 with h | h
      · have : k = 0 ∨ k = 1 ∨ k = 2 ∨ k = 3 ∨ k = 4 ∨ k = 5 ∨ k = 6 ∨ k = 7 ∨ k = 8 ∨ k = 9 ∨ k = 10 ∨ k = 11 := by omega
        rcases this with rfl | rfl | rfl | rfl | rfl | rfl | rfl | rfl | rfl | rfl | rfl | rfl
        · rw [p11_0]; rfl
        · rw [p11_1]; rfl
        · rw [p11_2]; rfl
        · rw [p11_3]; rfl
        · rw [p11_4]; rfl
        · rw [p11_5]; rfl
        · rw [p11_6]; rfl
        · rw [p11_7]; rfl
        · rw [p11_8]; rfl
        · rw [p11_9]; rfl
        · rw [p11_10]; rfl
        · rw [p11_11]; rfl
      · obtain ⟨m, rfl⟩ : ∃ m, k = m + 12 := ⟨k - 12, by omega⟩
        rw [o11, nameF_out]; rfl
  · cases hx
theorem ok2 : EnvOk E2 := ⟨by kernel_rfl, (fun (f : Nat) S h => by
  have h' : sp2 f = some S := h
  unfold sp2 at h'
  split at h'
  · cases h'; exact k24
  · cases h'; exact k23
  · cases h'; exact k11
  · cases h'; exact k9
  · cases h'; exact k12
  · cases h'; exact k14
  · cases h'; exact k16
  · cases h'; exact k18
  · cases h'; exact k20
  · cases h'), callees⟩
theorem t8 : (evF E2 60 8 []).inst = .leaf (.b true) := by kernel_rfl
def sAwake : Spec := mkSpec Bool (fun | [] => some (true, true) | _ => none) fun q => .v (.bool q)
theorem k8 : SpecOk E2 8 sAwake := spec_by ok2 (n := 60) fun svs x hx _ => by
  split at hx
  · cases hx; exact Tree.of_inst (by rw [t8]; exact rfl)
  · cases hx
def sp3 (f : Nat) : Option Spec := match f with
  | 8 => some sAwake | 24 => some sMasks | 23 => some sIs | 11 => some sName | 9 => some sNumber | 12 => some sMask | 14 => some sRead | 16 => some sWrite | 18 => some sCmp | 20 => some sReset | _ => none
noncomputable def E3 : Env := base sp3
theorem ok3 : EnvOk E3 := ⟨by kernel_rfl, (fun (f : Nat) S h => by
  have h' : sp3 f = some S := h
  unfold sp3 at h'
  split at h'
  · cases h'; exact k8
  · cases h'; exact k24
  · cases h'; exact k23
  · cases h'; exact k11
  · cases h'; exact k9
  · cases h'; exact k12
  · cases h'; exact k14
  · cases h'; exact k16
  · cases h'; exact k18
  · cases h'; exact k20
  · cases h'), callees⟩
end Go.Proofs.YtjddjfapfhjheaaDoor
