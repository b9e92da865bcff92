/-
  What the package spool computes, in plain Lean.
-/
import Derived.Test.YtnpfkhaaogjhlaaBts
import Derived.Test.YtnpfkhaaogjhlaaVl
namespace Go.Proofs.Ytnpfkhaaogjhlaa

def sumS (n : Nat) (x : UInt8) : Nat := (n ^^^ x.toNat) * 16777619 % 4294967296
def sumB (l : List UInt8) : Nat := l.foldl sumS 2166136261
def numS (n : Nat) (x : UInt8) : Nat := n * 256 % 18446744073709551616 + x.toNat
def numB (l : List UInt8) : Nat := l.foldl numS 0
theorem sumS_lt (n : Nat) (x : UInt8) : sumS n x < 4294967296 := Nat.mod_lt _ (by omega)
theorem sumB_snoc (l : List UInt8) (x : UInt8) : sumB (l ++ [x]) = sumS (sumB l) x := by unfold sumB; rw [List.foldl_append, List.foldl_cons, List.foldl_nil]
theorem sumB_lt (l : List UInt8) : sumB l < 4294967296 := by
  rcases List.eq_nil_or_concat l with rfl | ⟨m, x, rfl⟩
  · show 2166136261 < 4294967296; omega
  · rw [List.concat_eq_append, sumB_snoc]; exact sumS_lt _ _
theorem numS_lt (n : Nat) (x : UInt8) : numS n x < 18446744073709551616 := by
  unfold numS
  have := u8_lt x
  omega
theorem numB_snoc (l : List UInt8) (x : UInt8) : numB (l ++ [x]) = numS (numB l) x := by unfold numB; rw [List.foldl_append, List.foldl_cons, List.foldl_nil]
theorem numB_lt (l : List UInt8) : numB l < 18446744073709551616 := by
  rcases List.eq_nil_or_concat l with rfl | ⟨m, x, rfl⟩
  · show 0 < 18446744073709551616; omega
  · rw [List.concat_eq_append, numB_snoc]; exact numS_lt _ _
theorem take_snoc {l : List UInt8} {k : Nat} (h : k < l.length) : l.take (k + 1) = l.take k ++ [l.getD k 0] := by
  rw [List.take_add_one, List.getElem?_eq_getElem h]; simp [h]

/-- The bytes of a number, the highest first. -/
def big8 (n : Nat) : List UInt8 := [UInt8.ofNat (n / 256 / 256 / 256 / 256 / 256 / 256 / 256), UInt8.ofNat (n / 256 / 256 / 256 / 256 / 256 / 256), UInt8.ofNat (n / 256 / 256 / 256 / 256 / 256), UInt8.ofNat (n / 256 / 256 / 256 / 256), UInt8.ofNat (n / 256 / 256 / 256), UInt8.ofNat (n / 256 / 256), UInt8.ofNat (n / 256), UInt8.ofNat n]
def big4 (n : Nat) : List UInt8 := [UInt8.ofNat (n / 256 / 256 / 256), UInt8.ofNat (n / 256 / 256), UInt8.ofNat (n / 256), UInt8.ofNat n]

/-- right -/
def rightM (v : Vl) : Int :=
  if v.k = 3 then 0
  else if v.k = 0 then (if v.n < 0 ∨ 0 < v.n then 1 else 0)
  else if v.k = 1 then (if v.n < 0 ∨ 1 < v.n then 1 else 0)
  else if v.k = 2 then (if v.n < -2147483648 ∨ 2147483647 < v.n then 1 else 0)
  else if v.k = 4 then (if v.n < 0 ∨ 299 < v.n then 1 else 0)
  else 7

/-- A number as bits. -/
def u64of (n : Int) : Nat := (n % 18446744073709551616).toNat
def i64of (n : Nat) : Int := if n < 9223372036854775808 then n else (n : Int) - 18446744073709551616
def ownM (v : Vl) : List UInt8 := UInt8.ofNat (v.k % 256).toNat :: big8 (u64of v.n)
def recM (v : Vl) : List UInt8 := ownM v ++ big4 (sumB (ownM v))
@[simp] theorem ownM_length (v : Vl) : (ownM v).length = 9 := rfl
@[simp] theorem recM_length (v : Vl) : (recM v).length = 13 := rfl
def recs (l : List Vl) : List UInt8 := l.flatMap recM
theorem recs_length (l : List Vl) : (recs l).length = l.length * 13 := by
  induction l with
  | nil => rfl
  | cons e l ih => unfold recs at *; rw [List.flatMap_cons, List.length_append, ih, recM_length, List.length_cons]; omega
theorem recs_append (l m : List Vl) : recs (l ++ m) = recs l ++ recs m := by simp [recs]

/-- All: the first error, if there is one. -/
def errM (l : List Vl) : Int := ((l.find? fun v => rightM v != 0).map rightM).getD 0
def allM (l : List Vl) : List UInt8 × Int := if errM l = 0 then (recs l, 0) else ([], errM l)

/-- one -/
def oneM (b : List UInt8) : Vl × Int :=
  if numB (b.drop 9) ≠ sumB (b.take 9) then (⟨0, 0⟩, 11)
  else
    let v : Vl := ⟨((b.getD 0 0).toNat : Int), i64of (numB ((b.take 9).drop 1))⟩
    if rightM v ≠ 0 then (⟨0, 0⟩, 3) else (v, 0)

/-- Read, from the values that have come on. -/
def readM : Nat → List Vl → List UInt8 → List Vl × Int
  | 0, vs, _ => (vs, 0)
  | m + 1, vs, b => if b.length < 13 then (vs, 0) else match oneM (b.take 13) with
    | (v, 0) => readM m (vs ++ [v]) (b.drop 13)
    | (_, e) => ([], e)
end Go.Proofs.Ytnpfkhaaogjhlaa
