/-
  What must be in any case.
-/
import Derived.Test.YtfcimbhjoioinaaOrd
import Derived.Test.YtfcimbhjoioinaaRing
import Derived.Test.YtfcimbhjoioinaaRank
import Derived.Test.YtfcimbhjoioinaaSame
namespace Go.Proofs.Ytfcimbhjoioinaa
open Go.RowKit

theorem lit_any (w : World) (k : Nat) (xs : List Value) (cs : Array Value) (hcs : cs.toList = xs) (t : TypeId) (n : Nat) (hn : xs.length = n * k) (h1 : n ≤ 1000) : Sl (w.alloc (.cells cs t)) k (some ⟨w.heap.size, 0, none⟩) n n xs := by
  refine ⟨?_, hn, Nat.le_refl _, by omega, fun h => by cases h⟩
  have := new_row w cs t (0, 0)
  rwa [hcs] at this
theorem begun_ring : ringM [⟨3, 1, 0⟩, ⟨1, 2, 0⟩, ⟨2, 1, 0⟩] = (([1, 2], true), 0) := by decide
abbrev bgE : List Ev := [⟨13, 0, 0, 0, 0, 0, 8, 0, 0, 0, 0, 0⟩, ⟨13, 0, 0, 0, 0, 0, 4, 0, 0, 0, 0, 0⟩, ⟨14, 0, 0, 0, 0, 0, 8, 0, 0, 0, 0, 0⟩, ⟨13, 0, 0, 0, 0, 0, 6, 0, 0, 0, 0, 0⟩]
theorem begun_ord0 : ordO bgE (fun _ => []) = [⟨8, 4⟩, ⟨4, 6⟩] := by decide
theorem begun_sort : sortP [⟨8, 4⟩, ⟨4, 6⟩] = [⟨4, 6⟩, ⟨8, 4⟩] := by
  have h : ltOf cfP = fun x y : Dp => decide (x.i < y.i ∨ x.i = y.i ∧ x.j < y.j) := ltOf_cfP
  simp [sortP, h, List.mergeSort, List.MergeSort.Internal.splitInTwo]
theorem begun_order : orderM bgE = ([⟨4, 6⟩, ⟨8, 4⟩], 0) := by
  unfold orderM orderL
  rw [if_neg (by decide), begun_ord0, begun_sort]
  decide
theorem begun_rank : rankM [⟨5, 2⟩, ⟨5, 1⟩, ⟨2, 1⟩] = (([5, 2, 1], true), 0) := by decide
theorem begun_rank1 : rankM [⟨1, 1⟩] = (([], false), 0) := by decide

set_option maxHeartbeats 8000000 in
set_option maxRecDepth 100000 in
theorem begun_any (w : World) : Calls Try.prog 6 #[] w fun e w' => e = .returned (.bool true) ∧ Below w.heap.size w w' := by
  have hW1 := (Below.refl w.heap.size w).alloc (Nat.le_refl _) (.cells #[.int .i64 3, .int .i64 1, .int .i64 0, .int .i64 1, .int .i64 2, .int .i64 0, .int .i64 2, .int .i64 1, .int .i64 0] 30)
  have hS1 := lit_any w 3 (dws [⟨3, 1, 0⟩, ⟨1, 2, 0⟩, ⟨2, 1, 0⟩]) #[.int .i64 3, .int .i64 1, .int .i64 0, .int .i64 1, .int .i64 2, .int .i64 0, .int .i64 2, .int .i64 1, .int .i64 0] rfl 30 3 rfl (by decide)
  go_enter Try.func6, Try.ntmps6
  go_wp2_with fail
  generalize w.alloc (.cells _ 30) = w1 at *
  have C := ring_any (l := [⟨3, 1, 0⟩, ⟨1, 2, 0⟩, ⟨2, 1, 0⟩]) hS1
  rw [begun_ring] at C
  refine C.mono ?_
  clear C hS1
  rintro _ w2 ⟨qa, ca, rfl, hqa, hb2⟩
  dsimp only at hqa
  have hW2 := hW1.trans (hb2.mono hW1.size)
  clear hb2 hW1
  go_wp2_with fail
  have hal := (Below.refl w2.heap.size w2).alloc (Nat.le_refl _) (.cells #[.int .i64 13, .int .i64 0, .int .i64 0, .int .i64 0, .int .i64 0, .int .i64 0, .int .i64 8, .int .i64 0, .int .i64 0, .int .i64 0, .int .i64 0, .int .i64 0, .int .i64 13, .int .i64 0, .int .i64 0, .int .i64 0, .int .i64 0, .int .i64 0, .int .i64 4, .int .i64 0, .int .i64 0, .int .i64 0, .int .i64 0, .int .i64 0, .int .i64 14, .int .i64 0, .int .i64 0, .int .i64 0, .int .i64 0, .int .i64 0, .int .i64 8, .int .i64 0, .int .i64 0, .int .i64 0, .int .i64 0, .int .i64 0, .int .i64 13, .int .i64 0, .int .i64 0, .int .i64 0, .int .i64 0, .int .i64 0, .int .i64 6, .int .i64 0, .int .i64 0, .int .i64 0, .int .i64 0, .int .i64 0] 41)
  have hS2 := lit_any w2 12 (evs bgE) #[.int .i64 13, .int .i64 0, .int .i64 0, .int .i64 0, .int .i64 0, .int .i64 0, .int .i64 8, .int .i64 0, .int .i64 0, .int .i64 0, .int .i64 0, .int .i64 0, .int .i64 13, .int .i64 0, .int .i64 0, .int .i64 0, .int .i64 0, .int .i64 0, .int .i64 4, .int .i64 0, .int .i64 0, .int .i64 0, .int .i64 0, .int .i64 0, .int .i64 14, .int .i64 0, .int .i64 0, .int .i64 0, .int .i64 0, .int .i64 0, .int .i64 8, .int .i64 0, .int .i64 0, .int .i64 0, .int .i64 0, .int .i64 0, .int .i64 13, .int .i64 0, .int .i64 0, .int .i64 0, .int .i64 0, .int .i64 0, .int .i64 6, .int .i64 0, .int .i64 0, .int .i64 0, .int .i64 0, .int .i64 0] rfl 41 4 rfl (by decide)
  have hW3 := hW2.trans (hal.mono hW2.size)
  have hqa3 := hqa.below hal
  clear hal hW2 hqa
  generalize w2.alloc (.cells _ 41) = w3 at *
  have C := order_any (l := bgE) hS2 (by intro e he; simp only [List.mem_cons, List.not_mem_nil, or_false] at he; rcases he with rfl | rfl | rfl | rfl <;> exact ⟨by decide, by decide⟩)
  rw [begun_order] at C
  refine C.mono ?_
  clear C hS2
  rintro _ w4 ⟨qo, co, rfl, hqo, hb4⟩
  dsimp only at hqo
  have hW4 := hW3.trans (hb4.mono hW3.size)
  have hqa4 := hqa3.below hb4
  clear hb4 hW3 hqa3
  go_wp2_with fail
  have hal := (Below.refl w4.heap.size w4).alloc (Nat.le_refl _) (.cells #[.int .i64 5, .int .i64 2, .int .i64 5, .int .i64 1, .int .i64 2, .int .i64 1] 32)
  have hS3 := lit_any w4 2 (dps [⟨5, 2⟩, ⟨5, 1⟩, ⟨2, 1⟩]) #[.int .i64 5, .int .i64 2, .int .i64 5, .int .i64 1, .int .i64 2, .int .i64 1] rfl 32 3 rfl (by decide)
  have hW5 := hW4.trans (hal.mono hW4.size)
  have hqa5 := hqa4.below hal
  have hqo5 := hqo.below hal
  clear hal hW4 hqa4 hqo
  generalize w4.alloc (.cells _ 32) = w5 at *
  have C := rank_any (l := [⟨5, 2⟩, ⟨5, 1⟩, ⟨2, 1⟩]) hS3 (by intro e he; simp only [List.mem_cons, List.not_mem_nil, or_false] at he; rcases he with rfl | rfl | rfl <;> exact ⟨by decide, by decide⟩)
  rw [begun_rank] at C
  refine C.mono ?_
  clear C hS3
  rintro _ w6 ⟨qr, cr, rfl, hqr, hb6⟩
  dsimp only at hqr
  have hW6 := hW5.trans (hb6.mono hW5.size)
  have hqa6 := hqa5.below hb6
  have hqo6 := hqo5.below hb6
  clear hb6 hW5 hqa5 hqo5
  go_wp2_with fail
  have hal := (Below.refl w6.heap.size w6).alloc (Nat.le_refl _) (.cells #[.int .i64 1, .int .i64 1] 32)
  have hS4 := lit_any w6 2 (dps [⟨1, 1⟩]) #[.int .i64 1, .int .i64 1] rfl 32 1 rfl (by decide)
  have hW7 := hW6.trans (hal.mono hW6.size)
  have hqa7 := hqa6.below hal
  have hqo7 := hqo6.below hal
  have hqr7 := hqr.below hal
  clear hal hW6 hqa6 hqo6 hqr
  generalize w6.alloc (.cells _ 32) = w7 at *
  have C := rank_any (l := [⟨1, 1⟩]) hS4 (by intro e he; simp only [List.mem_cons, List.not_mem_nil, or_false] at he; rcases he with rfl; exact ⟨by decide, by decide⟩)
  rw [begun_rank1] at C
  refine C.mono ?_
  clear C hS4
  rintro _ w8 ⟨q1, c1, rfl, hq1, hb8⟩
  dsimp only at hq1
  have hW8 := hW7.trans (hb8.mono hW7.size)
  have hqa8 := hqa7.below hb8
  have hqo8 := hqo7.below hb8
  have hqr8 := hqr7.below hb8
  clear hb8 hW7 hqa7 hqo7 hqr7 hq1
  go_wp2_with fail
  have hal := (Below.refl w8.heap.size w8).alloc (Nat.le_refl _) (.cells #[.int .i64 1, .int .i64 2] 3)
  have hL := lit_sl w8 [(1 : Int), 2] (by simp) #[.int .i64 1, .int .i64 2] rfl _ rfl 2 rfl
  have C := sameInts_any (l := [1, 2]) (m := [1, 2]) (hqa8.below hal) hL
  rw [show decide (([1, 2] : List Int) = [1, 2]) = true from by decide] at C
  have hqo9 := hqo8.below hal
  have hqr9 := hqr8.below hal
  have hW9 := hW8.trans (hal.mono hW8.size)
  clear hL hal hqa8 hqo8 hqr8 hW8
  generalize w8.alloc (.cells _ 3) = w9 at *
  generalize w8.heap.size = L8 at *
  refine C.mono ?_
  clear C
  rintro _ w10 ⟨rfl, hb10⟩
  have hqo10 := hqo9.below hb10
  have hqr10 := hqr9.below hb10
  have hW10 := hW9.trans (hb10.mono hW9.size)
  clear hb10 hqo9 hqr9 hW9
  obtain ⟨b, off, rfl⟩ := hqo10.ptr (by decide) (by decide)
  obtain ⟨d0, d1⟩ := hqo10.dps_at (i := 0) (by decide)
  obtain ⟨d2, d3⟩ := hqo10.dps_at (i := 1) (by decide)
  rw [Nat.zero_mul, Nat.add_zero] at d0 d1
  change w10.cell? ⟨b, off, none⟩ = some (.int .i64 4) at d0
  change w10.cell? ⟨b, off + 1, none⟩ = some (.int .i64 6) at d1
  rw [Nat.one_mul] at d2 d3
  change w10.cell? ⟨b, off + 2, none⟩ = some (.int .i64 8) at d2
  change w10.cell? ⟨b, off + 2 + 1, none⟩ = some (.int .i64 4) at d3
  have q0 := fun W => run_eqIn_dp W 4 6 4 6
  have q1 := fun W => run_eqIn_dp W 8 4 8 4
  rw [show decide ((⟨4, 6⟩ : Dp) = ⟨4, 6⟩) = true from by decide] at q0
  rw [show decide ((⟨8, 4⟩ : Dp) = ⟨8, 4⟩) = true from by decide] at q1
  clear hqo10
  go_wp2_with fail
  have hal := (Below.refl w10.heap.size w10).alloc (Nat.le_refl _) (.cells #[.int .i64 5, .int .i64 2, .int .i64 1] 3)
  have hL := lit_sl w10 [(5 : Int), 2, 1] (by simp) #[.int .i64 5, .int .i64 2, .int .i64 1] rfl _ rfl 3 rfl
  have C := sameInts_any (l := [5, 2, 1]) (m := [5, 2, 1]) (hqr10.below hal) hL
  rw [show decide (([5, 2, 1] : List Int) = [5, 2, 1]) = true from by decide] at C
  have hW11 := hW10.trans (hal.mono hW10.size)
  clear hL hal hqr10 hW10 d0 d1 d2 d3 q0 q1
  generalize w10.alloc (.cells _ 3) = w11 at *
  generalize w10.heap.size = L10 at *
  refine C.mono ?_
  clear C
  rintro _ w12 ⟨rfl, hb12⟩
  have hW12 := hW11.trans (hb12.mono hW11.size)
  clear hb12 hW11
  go_wp2_with fail
  go_ret
  exact ⟨rfl, hW12⟩
end Go.Proofs.Ytfcimbhjoioinaa
