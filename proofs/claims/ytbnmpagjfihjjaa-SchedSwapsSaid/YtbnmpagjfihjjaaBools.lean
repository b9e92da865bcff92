/-
  Rows of truth values that a call has made.
-/
import Derived.Test.YtbnmpagjfihjjaaProg
import Derived.Test.YtbnmpagjfihjjaaMem
import Derived.Test.YtbnmpagjfihjjaaBlk
import Derived.OwnWalk
namespace Go.Proofs.Ytbnmpagjfihjjaa
open Go.RowKit

def bools (l : List Bool) : List Value := l.map Value.bool
@[simp] theorem bools_length (l : List Bool) : (bools l).length = l.length := by simp [bools]
theorem bools_get {l : List Bool} {i : Nat} (h : i < l.length) : (bools l)[i]? = some (.bool (l.getD i false)) := by simp [bools, h]
theorem bools_set (l : List Bool) (i : Nat) (b : Bool) : (bools l).set i (.bool b) = bools (l.set i b) := by simp [bools, List.map_set]
theorem bools_one {l : List Bool} : ∀ u ∈ bools l, u.oneCell' = true := by
  intro u hu
  obtain ⟨x, -, rfl⟩ := List.mem_map.1 hu
  rfl
theorem infoBl : (Try.prog.info? 4).map (fun i => (i.zero, i.size, i.bytes)) = some (some (.bool false), 1, 1) := by kernel_rfl
/-- The row at g, of the call's own (made from base on). -/
def OwnBl (w : World) (base g : Nat) (l : List Bool) : Prop := w.ownsRow base 4 1 (.slice (some ⟨g, 0, none⟩) l.length l.length) l.length (bools l)
theorem OwnBl.cell {w : World} {base g : Nat} {l : List Bool} (h : OwnBl w base g l) {i : Nat} (hi : i < l.length) : w.cell? ⟨g, i, none⟩ = some (.bool (l.getD i false)) := (World.ownsRow.cellAt h i (by omega)).trans (bools_get hi)
theorem OwnBl.frozen {w : World} {base g : Nat} {l : List Bool} (h : OwnBl w base g l) (i : Nat) : w.frozen? ⟨g, i, none⟩ = false := World.ownsRow.frozenAt h i
theorem OwnBl.ge {w : World} {base g : Nat} {l : List Bool} (h : OwnBl w base g l) : base ≤ g ∧ g < w.heap.size := World.ownsRow.lt h g rfl
theorem OwnBl.set {w : World} {base g : Nat} {l : List Bool} (h : OwnBl w base g l) (i : Nat) (b : Bool) : OwnBl (w.setCell ⟨g, i, none⟩ (.bool b)) base g (l.set i b) := by
  have := (World.ownsRow.stored h i (.bool b)).1
  rw [bools_set] at this
  unfold OwnBl
  rwa [List.length_set]
theorem OwnBl.below {w w' : World} {base g : Nat} {l : List Bool} (h : OwnBl w base g l) (hb : Below w.heap.size w w') : OwnBl w' base g l := own_below h hb
theorem OwnBl.sl {w : World} {base g : Nat} {l : List Bool} (h : OwnBl w base g l) : Sl w 1 (some ⟨g, 0, none⟩) l.length l.length (bools l) := Sl.of_own h
theorem OwnBl.mono {w : World} {base base' g : Nat} {l : List Bool} (h : OwnBl w base g l) (hb : base' ≤ base) : OwnBl w base' g l := own_mono h hb
theorem ownBl_made {w : World} {base g n : Nat} (h : w.ownsRow base 4 1 (.slice (some ⟨g, 0, none⟩) n n) n (madeCells (Value.bool false).cells (n * 1)).toList) : OwnBl w base g (List.replicate n false) := by
  unfold OwnBl
  rw [List.length_replicate]
  have e : (madeCells (Value.bool false).cells (n * 1)).toList = bools (List.replicate n false) := by
    rw [Nat.mul_one, show (Value.bool false).cells = #[Value.bool false] from rfl, toList_madeCells_one]; simp [bools]
  rwa [e] at h
theorem below_of_none {w w' : World} (h : w.grownBy w' none) : Below w.heap.size w w' := (Below.refl _ w).grown h (Nat.le_refl _) (fun k hk => by cases hk)
end Go.Proofs.Ytbnmpagjfihjjaa
