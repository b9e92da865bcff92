/-
  Blocks of cells that a call has laid, and what a loop over an iterator asks of them.
-/
import Derived.Test.YtenlhfmchhljdaaDoorMem
import Derived.RangeFuncBox
import Derived.RangeFuncNested
namespace Go.Proofs.YtenlhfmchhljdaaDoor
open Go.RowKit

/-- Block B of W holds the cells cs. -/
def Blk (W : World) (B : Nat) (cs : Array Value) (t : TypeId) : Prop := W.heap[B]? = some (.cells cs t (0, 0))
section
variable {W W' : World} {B : Nat} {cs : Array Value} {t : TypeId}
theorem Blk.lt (h : Blk W B cs t) : B < W.heap.size := (Array.getElem?_eq_some_iff.1 h).1
theorem Blk.cell (h : Blk W B cs t) (k : Nat) : W.cell? ⟨B, k, none⟩ = cs[k]? := by
  unfold World.cell?
  dsimp only
  rw [show W.heap[B]? = _ from h]
  rfl
theorem Blk.frozen (h : Blk W B cs t) (k : Nat) : W.frozen? ⟨B, k, none⟩ = false := by simp [World.frozen?, show W.heap[B]? = _ from h]
theorem Blk.mk_ (W : World) (cs : Array Value) (t : TypeId) (h : W.heap.size = B) : Blk (W.alloc (.cells cs t)) B cs t := by
  subst h
  exact World.alloc_heap_new W _
theorem Blk.alloc (h : Blk W B cs t) (o : Obj) : Blk (W.alloc o) B cs t := (Below.heap_alloc W o B h.lt).trans h
theorem Blk.drew (h : Blk W B cs t) : Blk W.drew B cs t := h
theorem Blk.below (h : Blk W B cs t) {n : Nat} (hw : Below n W W') (hb : B < n) : Blk W' B cs t := (hw.block B hb).trans h
theorem Blk.next (h : Blk W B cs t) (hw : Below W.heap.size W W') : Blk W' B cs t := h.below hw h.lt
theorem Blk.own {β : Type} (f : β → Array Value) : Own (fun s W => Blk W B (f s) t) := fun s X Y row hs hg hrow => by
  have hs' : X.heap[B]? = some (.cells (f s) t (0, 0)) := hs
  refine (hg.block B (Array.getElem?_eq_some_iff.1 hs').1 fun e' => ?_).trans hs'
  obtain ⟨o, ho, hc⟩ := hrow B e'.symm
  rw [hs'] at ho
  cases ho
  cases hc
theorem Blk.set (h : Blk W B cs t) (k : Nat) (v : Value) : Blk (W.setCell ⟨B, k, none⟩ v) B (cs.setIfInBounds k v) t := by
  obtain ⟨hlt, hk⟩ := Array.getElem?_eq_some_iff.1 h
  show (W.heap.modify B _)[B]? = _
  rw [Array.getElem?_eq_getElem (by rw [Array.size_modify]; exact hlt), Array.getElem_modify_self, hk]
  rfl
theorem Blk.other (h : Blk W B cs t) {C k : Nat} (v : Value) (hne : C ≠ B) : Blk (W.setCell ⟨C, k, none⟩ v) B cs t := by
  obtain ⟨hlt, hk⟩ := Array.getElem?_eq_some_iff.1 h
  show (W.heap.modify C _)[B]? = _
  rw [Array.getElem?_eq_getElem (by rw [Array.size_modify]; exact hlt), Array.getElem_modify_of_ne hne, hk]
end
theorem keeps_of_below {W W' : World} (h : Below W.heap.size W W') (B : Nat) : KeepsFrom B W W' :=
  ⟨h.size, fun k _ _ hk _ => (h.block k (Array.getElem?_eq_some_iff.1 hk).1).trans hk⟩
end Go.Proofs.YtenlhfmchhljdaaDoor
