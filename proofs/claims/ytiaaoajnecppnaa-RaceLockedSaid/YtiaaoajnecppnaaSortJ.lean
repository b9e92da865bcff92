/-
  Sort of a row of numbers of the call's own; BinarySearch of numbers.
-/
import Derived.Test.YtiaaoajnecppnaaShelf
import Derived.Test.YtiaaoajnecppnaaInts
import Derived.Shelf.Sort.Plain
import Derived.Shelf.SlicesG.SearchI
import Derived.Sort.OwnSortedInts
namespace Go.Proofs.Ytiaaoajnecppnaa
open Go.RowKit Go.Sort

theorem own_cut {w : World} {base : Nat} {e : TypeId} {p : Option Addr} {n m cap : Nat} {xs : List Value} (h : w.ownsRow base e 1 (.slice p n cap) n xs) (hm : m ≤ n) (hp : p ≠ none) : w.ownsRow base e 1 (.slice p m cap) m (xs.take m) := by
  refine ⟨by rw [List.length_take, h.1]; omega, ?_⟩
  rcases h.2 with ⟨hv, rfl⟩ | ⟨g, cap', cur, hv, hb, hg, hnc, hm', hs, ht⟩
  · cases hv; exact absurd rfl hp
  · cases hv
    refine .inr ⟨g, cap, cur, rfl, hb, hg, by omega, hm', hs, ?_⟩
    rw [← ht, List.take_take]
    congr 1
    omega

/-- slices.Sort of a row of the call's own. -/
theorem sort_any {w : World} {base : Nat} {p : Option Addr} {cap : Nat} {l : List Int} (h : OwnI w base p cap l) (h0 : 0 < l.length) (hl : l.length ≤ 100000) :
    Calls Try.prog 33 #[.slice p l.length cap] w fun e w' => e = .returned (.tuple #[]) ∧ OwnI w' base p cap (l.mergeSort fun x y => decide (x ≤ y)) ∧ w.grownBy w' (Value.slice p l.length cap).ownBlock := by
  rcases h.2 with ⟨hv, hn⟩ | ⟨g, cap', cur, hv, hb, hg, hnc, hm, hs, ht⟩
  · omega
  · cases hv
    have hlm : (l.mergeSort fun x y => decide (x ≤ y)).length = l.length := List.length_mergeSort _
    have hH := holds_of_blockI (ss := l) hg (by rw [Nat.mul_one] at ht; exact ht)
    have hc := Any.slices_Sort_int Try.sort g 0 cap l w hH (Array.getElem?_eq_some_iff.1 hg).1 (by omega)
    change Calls Try.prog 33 _ _ _ at hc
    refine hc.mono ?_
    rintro e w' ⟨rfl, n, os, rfl⟩
    refine ⟨rfl, ?_, grownBy_sortedI _⟩
    have := ownsRow_sortedI (n := n) (os := os) (ss := l) (ts := l.mergeSort fun x y => decide (x ≤ y)) hlm hb hg hnc (by unfold maxLen at hm ⊢; exact hm) hs
    unfold OwnI
    rw [hlm]
    exact this
theorem slI_cells {w : World} {b off n cap : Nat} {l : List Int} (h : Sl w 1 (some ⟨b, off, none⟩) n cap (ints .i64 l)) : ∀ j, j < l.length → w.cell? ⟨b, off + j, none⟩ = some (.int .i64 (l.getD j 0)) := fun _ hj => h.row.at_ (ints_getD hj)
/-- slices.BinarySearch of numbers that rise. -/
theorem search_any {w : World} {p : Option Addr} {cap : Nat} {l : List Int} (h : SlI w p cap l) (h0 : 0 < l.length) (hl : l.length ≤ 100000) (hs : l.Pairwise (· ≤ ·)) (x : Int) :
    Calls Try.prog 28 #[.slice p l.length cap, .int .i64 x] w fun e w' => e = .returned (.tuple #[.int .i64 (l.countP (· < x) : Nat), .bool (decide (x ∈ l))]) ∧ Below w.heap.size w w' := by
  obtain ⟨b, off, rfl⟩ := h.ptr h0 (by omega)
  have hc := AnyG.slices_BinarySearch_int Try.search b off l.length cap l x w (Nat.le_refl _) (by omega) (slI_cells h) (by rw [List.take_length]; exact hs)
  change Calls Try.prog 28 _ _ _ at hc
  rw [List.take_length] at hc
  refine hc.mono ?_
  rintro e w' ⟨rfl, q, rfl⟩
  refine ⟨?_, below_drewN (Below.refl _ _) _⟩
  rw [List.contains_eq_mem]
end Go.Proofs.Ytiaaoajnecppnaa
