/-
  Rows of numbers of the call's own: made, written, read.
-/
import Derived.Test.YtfcimbhjoioinaaInts
namespace Go.Proofs.Ytfcimbhjoioinaa
open Go.RowKit

theorem made_ints (n : Nat) : (madeCells (Value.int .i64 0).cells (n * 1)).toList = ints .i64 (List.replicate n 0) := by
  have e : (fun x => ([Value.int .i64 0][x % 1]?).getD default) = fun _ : Nat => Value.int .i64 0 := by funext x; rw [Nat.mod_one]; rfl
  simp [madeCells, ints, Value.cells]
  rw [e, List.map_const']; simp
theorem below_none {w w' : World} (hg : w.grownBy w' none) : Below w.heap.size w w' := (Below.refl _ _).grown hg (Nat.le_refl _) fun k hk => by cases hk
theorem ints_set (k : IntKind) (l : List Int) (i : Nat) (x : Int) : ints k (l.set i x) = (ints k l).set i (.int k x) := by simp [ints, List.map_set]
/-- One number of a row of the call's own is written. -/
theorem own_set {w : World} {base U n c : Nat} {l : List Int} (h : w.ownsRow base 3 1 (.slice (some ⟨U, 0, none⟩) n c) n (ints .i64 l)) (i : Nat) (x : Int) :
    (w.setCell ⟨U, i, none⟩ (.int .i64 x)).ownsRow base 3 1 (.slice (some ⟨U, 0, none⟩) n c) n (ints .i64 (l.set i x)) := by
  rw [ints_set]; exact (h.stored i _).1
theorem own_cell {w : World} {base U n c : Nat} {l : List Int} (h : w.ownsRow base 3 1 (.slice (some ⟨U, 0, none⟩) n c) n (ints .i64 l)) {i : Nat} (hi : i < n) : w.cell? ⟨U, i, none⟩ = some (.int .i64 (l.getD i 0)) := by
  have hl : l.length = n := by have := h.1; simpa using this
  rw [h.cellAt i (by omega), ints_getD (by omega)]

end Go.Proofs.Ytfcimbhjoioinaa
