/-
  BinarySearch of numbers that rise.
-/
import Derived.Test.YtbnmpagjfihjjaaIns
import Derived.Test.YtbnmpagjfihjjaaLate
import Derived.Shelf.SlicesG.SearchI
namespace Go.Proofs.Ytbnmpagjfihjjaa
open Go.RowKit

set_option maxHeartbeats 1000000 in
theorem search0 (p : Option Addr) (cap : Nat) (x : Int) (w : World) : Calls Try.prog 22 #[.slice p 0 cap, .int .i64 x] w fun e w' => e = .returned (.tuple #[.int .i64 0, .bool false]) ∧ Below w.heap.size w w' := by
  go_enter Try.func22, Try.ntmps22
  go_wp2_with fail
  go_loopg [7, 8] 0 (fun kx s s' wr => s = .int .i64 0 ∧ s' = .int .i64 0 ∧ Hid (wr = w))
  case atStart => exact ⟨rfl, rfl, rfl⟩
  case round =>
    obtain ⟨rfl, rfl, hw⟩ := hrel
    obtain rfl := hw.out
    go_wp2_with fail
    go_ret2
    exact ⟨rfl, Below.refl _ _⟩
theorem slI_cells {w : World} {b off n cap : Nat} {l : List Int} (h : Sl w 1 (some ⟨b, off, none⟩) n cap (ints .i64 l)) : ∀ j, j < l.length → w.cell? ⟨b, off + j, none⟩ = some (.int .i64 (l.getD j 0)) := fun _ hj => h.row.at_ (ints_getD hj)
/-- slices.BinarySearch of numbers that rise. -/
theorem search_any {w : World} {p : Option Addr} {cap : Nat} {l : List Int} (h : SlI w p cap l) (hl : l.length ≤ 100000) (hs : l.Pairwise (· ≤ ·)) (x : Int) :
    Calls Try.prog 22 #[.slice p l.length cap, .int .i64 x] w fun e w' => e = .returned (.tuple #[.int .i64 (l.countP (· < x) : Nat), .bool (decide (x ∈ l))]) ∧ Below w.heap.size w w' := by
  by_cases h0 : 0 < l.length
  · obtain ⟨b, off, rfl⟩ := h.ptr h0 (by omega)
    have hc := AnyG.slices_BinarySearch_int Try.search b off l.length cap l x w (Nat.le_refl _) (by omega) (slI_cells h) (by rw [List.take_length]; exact hs)
    change Calls Try.prog 22 _ _ _ at hc
    rw [List.take_length] at hc
    refine hc.mono ?_
    rintro e w' ⟨rfl, q, rfl⟩
    refine ⟨?_, below_drewN (Below.refl _ _) _⟩
    rw [List.contains_eq_mem]
  · cases l with
    | nil => exact search0 p cap x w
    | cons a l => exact absurd (Nat.succ_pos _) h0
end Go.Proofs.Ytbnmpagjfihjjaa
