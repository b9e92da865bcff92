/-
  Pairs of numbers as cells.
-/
import Derived.Test.YtiaaoajnecppnaaMem
namespace Go.Proofs.Ytiaaoajnecppnaa

structure Dp where
  i : Int
  j : Int
deriving DecidableEq
abbrev Dp.z : Dp := ⟨0, 0⟩
def Dp.cells (e : Dp) : List Value := [.int .i64 e.i, .int .i64 e.j]
abbrev Dp.val (e : Dp) : Value := .agg #[.int .i64 e.i, .int .i64 e.j]
def dps (l : List Dp) : List Value := l.flatMap Dp.cells
@[simp] theorem Dp.cells_length (e : Dp) : e.cells.length = 2 := rfl
@[simp] theorem dps_nil : dps [] = [] := rfl
theorem dps_cons (e : Dp) (l : List Dp) : dps (e :: l) = e.cells ++ dps l := by simp [dps]
@[simp] theorem dps_length (l : List Dp) : (dps l).length = l.length * 2 := by
  induction l with
  | nil => rfl
  | cons e l ih => rw [dps_cons, List.length_append, ih, Dp.cells_length, List.length_cons]; omega
theorem dps_take (l : List Dp) (n : Nat) : dps (l.take n) = (dps l).take (n * 2) := by
  induction l generalizing n with
  | nil => simp
  | cons e l ih =>
    cases n with
    | zero => simp
    | succ n =>
      rw [List.take_succ_cons, dps_cons, dps_cons, ih, List.take_append, Dp.cells_length, show (n + 1) * 2 - 2 = n * 2 from by omega, List.take_of_length_le (l := e.cells) (by simp; omega)]
theorem dps_get {l : List Dp} {i j : Nat} (hi : i < l.length) (hj : j < 2) : (dps l)[i * 2 + j]? = (l.getD i .z).cells[j]? := by
  induction l generalizing i with
  | nil => simp at hi
  | cons e l ih =>
    rw [dps_cons]
    cases i with
    | zero => rw [Nat.zero_mul, Nat.zero_add, List.getElem?_append_left (by simpa using hj)]; rfl
    | succ i =>
      rw [List.getElem?_append_right (by simp; omega), Dp.cells_length, show (i + 1) * 2 + j - 2 = i * 2 + j from by omega, ih (by simpa using hi)]
      rfl
theorem dps_one {l : List Dp} : ∀ u ∈ dps l, u.oneCell' = true := by
  intro u hu
  obtain ⟨e, -, h⟩ := List.mem_flatMap.1 hu
  simp only [Dp.cells, List.mem_cons, List.not_mem_nil, or_false] at h
  rcases h with rfl | rfl <;> rfl
end Go.Proofs.Ytiaaoajnecppnaa
