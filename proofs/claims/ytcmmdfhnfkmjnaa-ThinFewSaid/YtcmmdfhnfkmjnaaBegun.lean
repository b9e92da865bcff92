/-
  What must be in any case.
-/
import Derived.Test.YtcmmdfhnfkmjnaaWalk2
import Derived.Test.YtcmmdfhnfkmjnaaSame
namespace Go.Proofs.Ytcmmdfhnfkmjnaa
open Go.RowKit Go.Sort

theorem k11 : keptL 11 = [0, 4, 8, 10, 11] := by decide +kernel
theorem k12 : keptL 12 = [0, 8, 10, 11, 12] := by decide +kernel
theorem g12 : goneL 12 = [4] := by decide +kernel
theorem kept11 (w : World) : Calls Try.prog 7 #[.int .i64 11] w fun e w' => ∃ p c, e = .returned (.tuple #[.slice p 5 c, .int .i64 0]) ∧ SlI w' p c [0, 4, 8, 10, 11] ∧ Below w.heap.size w w' := by
  have := Kept_ok w 11 (by decide)
  rw [k11] at this
  exact this.mono fun e w' ⟨p, c, h1, h2, h3⟩ => ⟨p, c, h1, Sl.of_own h2, h3⟩
theorem add12 {w : World} {p : Option Addr} {c : Nat} (h : SlI w p c [0, 4, 8, 10, 11]) : Calls Try.prog 9 #[.slice p 5 c, .int .i64 12] w fun e w' => ∃ p1 c1 p2 c2, e = .returned (.tuple #[.slice p1 5 c1, .slice p2 1 c2, .int .i64 0]) ∧ SlI w' p1 c1 [0, 8, 10, 11, 12] ∧ SlI w' p2 c2 [4] ∧ Below w.heap.size w w' := by
  have := Add_any (n := 12) (m := 11) rfl (by decide) k11.symm h
  rw [k12, g12] at this
  exact this
theorem from9 {w : World} {p : Option Addr} {c : Nat} (h : SlI w p c [0, 4, 8, 10, 11]) : Calls Try.prog 8 #[.slice p 5 c, .int .i64 9] w fun e w' => e = .returned (.tuple #[.int .i64 8, .int .i64 0]) ∧ Below w.heap.size w w' := by
  refine (From_any (at_ := 9) h (by decide) (by decide) (by decide) (by decide) (by decide)).mono ?_
  rintro e w' ⟨k, rfl, h1, h2, h3, h4⟩
  have := h3 8 (by decide) (by decide)
  have : k = 8 := by
    simp at h1
    omega
  exact ⟨by rw [this], h4⟩

set_option maxRecDepth 100000 in
set_option maxHeartbeats 2000000 in
theorem begun_any (w : World) : Calls Try.prog 6 #[] w fun e w' => e = .returned (.bool true) ∧ Below w.heap.size w w' := by
  go_enter Try.func6, Try.ntmps6
  go_wp2_with fail
  refine (kept11 w).mono ?_
  rintro _ w1 ⟨p1, c1, rfl, h1, hB⟩
  go_wp2_with fail
  refine (add12 h1).mono ?_
  rintro _ w2 ⟨p2, c2, p3, c3, rfl, h2, h3, hb⟩
  replace hB := hB.trans (hb.mono hB.size)
  replace h1 := h1.below hb
  clear hb
  go_wp2_with fail
  refine (from9 h1).mono ?_
  rintro _ w3 ⟨rfl, hb⟩
  replace hB := hB.trans (hb.mono hB.size)
  replace h1 := h1.below hb
  replace h2 := h2.below hb
  replace h3 := h3.below hb
  clear hb
  go_wp2_with fail
  have hL := lit_sl w3 [0, 4, 8, 10, 11] (by decide) #[.int .i64 0, .int .i64 4, .int .i64 8, .int .i64 10, .int .i64 11] rfl _ rfl 5 rfl
  have hal := (Below.refl w3.heap.size w3).alloc (Nat.le_refl _) (.cells #[.int .i64 0, .int .i64 4, .int .i64 8, .int .i64 10, .int .i64 11] 3)
  refine (sameI_is (h1.below hal) hL (b := true) rfl).mono ?_
  rintro _ w4 ⟨rfl, hb⟩
  replace hb := hal.trans (hb.mono hal.size)
  replace hB := hB.trans (hb.mono hB.size)
  replace h2 := h2.below hb
  replace h3 := h3.below hb
  clear hb hL hal h1
  go_wp2_with fail
  have hL := lit_sl w4 [0, 8, 10, 11, 12] (by decide) #[.int .i64 0, .int .i64 8, .int .i64 10, .int .i64 11, .int .i64 12] rfl _ rfl 5 rfl
  have hal := (Below.refl w4.heap.size w4).alloc (Nat.le_refl _) (.cells #[.int .i64 0, .int .i64 8, .int .i64 10, .int .i64 11, .int .i64 12] 3)
  refine (sameI_is (h2.below hal) hL (b := true) rfl).mono ?_
  rintro _ w5 ⟨rfl, hb⟩
  replace hb := hal.trans (hb.mono hal.size)
  replace hB := hB.trans (hb.mono hB.size)
  replace h3 := h3.below hb
  clear hb hL hal h2
  go_wp2_with fail
  have hL := lit_sl w5 [4] (by decide) #[.int .i64 4] rfl _ rfl 1 rfl
  have hal := (Below.refl w5.heap.size w5).alloc (Nat.le_refl _) (.cells #[.int .i64 4] 3)
  refine (sameI_is (h3.below hal) hL (b := true) rfl).mono ?_
  rintro _ w6 ⟨rfl, hb⟩
  replace hb := hal.trans (hb.mono hal.size)
  replace hB := hB.trans (hb.mono hB.size)
  clear hb hL hal h3
  go_wp2_with fail
  go_ret
  exact ⟨rfl, hB⟩
end Go.Proofs.Ytcmmdfhnfkmjnaa
