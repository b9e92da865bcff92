/-
  What must be in any case.
-/
import Derived.Test.YtbnmpagjfihjjaaNor
import Derived.Test.YtbnmpagjfihjjaaPack
import Derived.Test.YtbnmpagjfihjjaaSame
import Derived.Test.YtbnmpagjfihjjaaSameR
namespace Go.Proofs.Ytbnmpagjfihjjaa
open Go.RowKit

abbrev bgD : List (List Bool) := [[true, true, false], [true, true, false], [false, false, true]]
theorem begun_cnt : cntR [2, 1, 1] = (12, 0) := by decide
theorem begun_nth : nthM [2, 1] 1 = ([0, 1, 0], 0) := by decide
theorem begun_norm : normM [1, 0, 2] bgD = ([[1, 2], [0]], 0) := by decide
theorem begun_pack : packM [1, 1, 0] = ([⟨1, 2⟩, ⟨0, 1⟩], 0) := by decide
theorem lit_bools (w : World) (l : List Bool) (hl : l.length ≤ 1000) (cs : Array Value) (hcs : cs.toList = bools l) (t : TypeId) (B : Nat) (hB : B = w.heap.size) (n : Nat) (hn : n = l.length) : Sl (w.alloc (.cells cs t)) 1 (some ⟨B, 0, none⟩) n n (bools l) := by
  subst hn hB
  refine ⟨?_, by simp [bools], Nat.le_refl _, by omega, fun h => by cases h⟩
  have := new_row w cs t (0, 0)
  rwa [hcs] at this

abbrev rA : Obj := .cells #[.int .i64 1, .int .i64 0, .int .i64 2] 3
abbrev rB : Obj := .cells #[.bool true, .bool true, .bool false] 4
abbrev rC : Obj := .cells #[.bool false, .bool false, .bool true] 4
abbrev rD (n : Nat) : Obj := .cells #[.slice (some ⟨n + 1, 0, none⟩) 3 3, .slice (some ⟨n + 1 + 1, 0, none⟩) 3 3, .slice (some ⟨n + 1 + 1 + 1, 0, none⟩) 3 3] 38
abbrev sD (n : Nat) : Sv (Sv Bool) := ⟨some ⟨n + 1 + 1 + 1 + 1, 0, none⟩, 3, [⟨some ⟨n + 1, 0, none⟩, 3, [true, true, false]⟩, ⟨some ⟨n + 1 + 1, 0, none⟩, 3, [true, true, false]⟩, ⟨some ⟨n + 1 + 1 + 1, 0, none⟩, 3, [false, false, true]⟩]⟩
theorem bg_lits (w : World) : SlI (((((w.alloc rA).alloc rB).alloc rB).alloc rC).alloc (rD w.heap.size)) (some ⟨w.heap.size, 0, none⟩) 3 [1, 0, 2] ∧ RdBB (((((w.alloc rA).alloc rB).alloc rB).alloc rC).alloc (rD w.heap.size)) (sD w.heap.size) ∧ Below w.heap.size w (((((w.alloc rA).alloc rB).alloc rB).alloc rC).alloc (rD w.heap.size)) := by
  have b0 := (Below.refl w.heap.size w).alloc (Nat.le_refl _) rA
  have b1 := (Below.refl (w.alloc rA).heap.size (w.alloc rA)).alloc (Nat.le_refl _) rB
  have b2 := (Below.refl ((w.alloc rA).alloc rB).heap.size ((w.alloc rA).alloc rB)).alloc (Nat.le_refl _) rB
  have b3 := (Below.refl (((w.alloc rA).alloc rB).alloc rB).heap.size (((w.alloc rA).alloc rB).alloc rB)).alloc (Nat.le_refl _) rC
  have b4 := (Below.refl ((((w.alloc rA).alloc rB).alloc rB).alloc rC).heap.size ((((w.alloc rA).alloc rB).alloc rB).alloc rC)).alloc (Nat.le_refl _) (rD w.heap.size)
  have l0 := lit_sl w [(1 : Int), 0, 2] (by simp) #[.int .i64 1, .int .i64 0, .int .i64 2] rfl w.heap.size rfl 3 rfl
  have l1 := lit_bools (w.alloc rA) [true, true, false] (by simp) #[.bool true, .bool true, .bool false] rfl 4 (w.heap.size + 1) (by simp) 3 rfl
  have l2 := lit_bools ((w.alloc rA).alloc rB) [true, true, false] (by simp) #[.bool true, .bool true, .bool false] rfl 4 (w.heap.size + 1 + 1) (by simp) 3 rfl
  have l3 := lit_bools (((w.alloc rA).alloc rB).alloc rB) [false, false, true] (by simp) #[.bool false, .bool false, .bool true] rfl 4 (w.heap.size + 1 + 1 + 1) (by simp) 3 rfl
  have hrow := new_row ((((w.alloc rA).alloc rB).alloc rB).alloc rC) #[.slice (some ⟨w.heap.size + 1, 0, none⟩) 3 3, .slice (some ⟨w.heap.size + 1 + 1, 0, none⟩) 3 3, .slice (some ⟨w.heap.size + 1 + 1 + 1, 0, none⟩) 3 3] 38 (0, 0)
  have hsz : ((((w.alloc rA).alloc rB).alloc rB).alloc rC).heap.size = w.heap.size + 1 + 1 + 1 + 1 := by simp
  rw [hsz] at hrow
  have c1 := b1.trans (b2.mono b1.size)
  refine ⟨(((l0.below b1).below b2).below b3).below b4, ⟨⟨hrow, rfl, Nat.le_refl 3, by show 3 ≤ 9223372036854775807; decide, fun h => by cases h⟩, fun x hx => ?_⟩, ?_⟩
  · simp only [List.mem_cons, List.not_mem_nil, or_false] at hx
    rcases hx with rfl | rfl | rfl
    · exact ((l1.below b2).below b3).below b4
    · exact (l2.below b3).below b4
    · exact l3.below b4
  · exact (((b0.trans (b1.mono (by simp))).trans (b2.mono (by simp; omega))).trans (b3.mono (by simp; omega))).trans (b4.mono (by simp; omega))

set_option maxHeartbeats 8000000 in
set_option maxRecDepth 100000 in
theorem begun_any (w : World) : Calls Try.prog 6 #[] w fun e w' => e = .returned (.bool true) ∧ Below w.heap.size w w' := by
  have hW1 := (Below.refl w.heap.size w).alloc (Nat.le_refl _) (.cells #[.int .i64 2, .int .i64 1, .int .i64 1] 3)
  have hS1 := lit_sl w [(2 : Int), 1, 1] (by simp) #[.int .i64 2, .int .i64 1, .int .i64 1] rfl _ rfl 3 rfl
  go_enter Try.func6, Try.ntmps6
  go_wp2_with fail
  generalize w.alloc (.cells _ 3) = w1 at *
  have C := countC_any (l := [2, 1, 1]) hS1
  rw [begun_cnt] at C
  refine C.mono ?_
  clear C hS1
  rintro _ w2 ⟨rfl, hb2⟩
  have hW2 := hW1.trans (hb2.mono hW1.size)
  clear hb2 hW1
  go_wp2_with fail
  have hal := (Below.refl w2.heap.size w2).alloc (Nat.le_refl _) (.cells #[.int .i64 2, .int .i64 1] 3)
  have hS2 := lit_sl w2 [(2 : Int), 1] (by simp) #[.int .i64 2, .int .i64 1] rfl _ rfl 2 rfl
  have hW3 := hW2.trans (hal.mono hW2.size)
  clear hal hW2
  generalize w2.alloc (.cells _ 3) = w3 at *
  have C := nth_any (l := [2, 1]) 1 hS2
  rw [begun_nth] at C
  refine C.mono ?_
  clear C hS2
  rintro _ w4 ⟨q4, c4, rfl, hq4, hb4⟩
  dsimp only at hq4
  have hW4 := hW3.trans (hb4.mono hW3.size)
  clear hb4 hW3
  go_wp2_with fail
  obtain ⟨hl, hD, hb5⟩ := bg_lits w4
  have hq5 := hq4.below hb5
  have hW5 := hW4.trans (hb5.mono hW4.size)
  dsimp only [rA, rB, rC, rD] at hl hD hq5 hW5
  clear hb5 hW4 hq4
  generalize World.alloc _ (.cells _ 38) = w5 at *
  generalize w4.heap.size = n4 at *
  have C := normal_any hl hD
  dsimp only [sD, List.map] at C
  rw [begun_norm] at C
  refine C.mono ?_
  clear C hl hD
  rintro _ w6 ⟨sN, rfl, hN, hNl, hb6⟩
  dsimp only at hNl
  have hq6 := hq5.below hb6
  have hW6 := hW5.trans (hb6.mono hW5.size)
  clear hb6 hW5 hq5
  go_wp2_with fail
  have hal := (Below.refl w6.heap.size w6).alloc (Nat.le_refl _) (.cells #[.int .i64 1, .int .i64 1, .int .i64 0] 3)
  have hS6 := lit_sl w6 [(1 : Int), 1, 0] (by simp) #[.int .i64 1, .int .i64 1, .int .i64 0] rfl _ rfl 3 rfl
  have hW7 := hW6.trans (hal.mono hW6.size)
  have hq7 := hq6.below hal
  have hN7 := RdR.st _ _ _ hN hal
  clear hal hW6 hq6 hN
  generalize w6.alloc (.cells _ 3) = w7 at *
  have C := pack_any (l := [1, 1, 0]) hS6
  rw [begun_pack] at C
  refine C.mono ?_
  clear C hS6
  rintro _ w8 ⟨q8, c8, rfl, hP8, hb8⟩
  dsimp only at hP8
  have hW8 := hW7.trans (hb8.mono hW7.size)
  have hq8 := hq7.below hb8
  have hN8 := RdR.st _ _ _ hN7 hb8
  clear hb8 hW7 hq7 hN7
  go_wp2_with fail
  have hal := (Below.refl w8.heap.size w8).alloc (Nat.le_refl _) (.cells #[.int .i64 0, .int .i64 1, .int .i64 0] 3)
  have hL := lit_sl w8 [(0 : Int), 1, 0] (by simp) #[.int .i64 0, .int .i64 1, .int .i64 0] rfl _ rfl 3 rfl
  have C := sameInts_any (l := [0, 1, 0]) (m := [0, 1, 0]) (hq8.below hal) hL
  rw [show decide (([0, 1, 0] : List Int) = [0, 1, 0]) = true from by decide] at C
  have hP9 := hP8.below hal
  have hN9 := RdR.st _ _ _ hN8 hal
  have hW9 := hW8.trans (hal.mono hW8.size)
  clear hL hal hq8 hP8 hN8 hW8
  generalize w8.alloc (.cells _ 3) = w9 at *
  generalize w8.heap.size = L8 at *
  refine C.mono ?_
  clear C
  rintro _ w10 ⟨rfl, hb10⟩
  have hP10 := hP9.below hb10
  have hN10 := RdR.st _ _ _ hN9 hb10
  have hW10 := hW9.trans (hb10.mono hW9.size)
  clear hP9 hN9 hW9 hb10
  obtain ⟨tp, tc, tl⟩ := sN
  dsimp only [Sv.val] at *
  have htl : tl.length = 2 := by have := congrArg List.length hNl; simpa using this
  have HTl := Lib.hid hNl
  have HT := Lib.hid hN10
  have HTN := Lib.hid htl
  rw [HTN.out]
  clear hNl hN10 htl
  go_wp2_with fail
  have ha1 := (Below.refl w10.heap.size w10).alloc (Nat.le_refl _) (.cells #[.int .i64 1, .int .i64 2] 3)
  have ha2 := (Below.refl (w10.alloc (.cells #[.int .i64 1, .int .i64 2] 3)).heap.size (w10.alloc (.cells #[.int .i64 1, .int .i64 2] 3))).alloc (Nat.le_refl _) (.cells #[.int .i64 0] 3)
  have hL0 := lit_sl w10 [(1 : Int), 2] (by simp) #[.int .i64 1, .int .i64 2] rfl w10.heap.size rfl 2 rfl
  have hL1 := lit_sl (w10.alloc (.cells #[.int .i64 1, .int .i64 2] 3)) [(0 : Int)] (by simp) #[.int .i64 0] rfl (w10.heap.size + 1) (by simp) 1 rfl
  have hsz : ((w10.alloc (.cells #[.int .i64 1, .int .i64 2] 3)).alloc (.cells #[.int .i64 0] 3)).heap.size = w10.heap.size + 1 + 1 := by simp
  have hL0' := Sl.below hL0 ha2
  have hb12 := ha1.trans (ha2.mono (by simp))
  generalize (w10.alloc (.cells #[.int .i64 1, .int .i64 2] 3)).alloc (.cells #[.int .i64 0] 3) = wx at *
  have ha3 := (Below.refl wx.heap.size wx).alloc (Nat.le_refl _) (.cells #[.slice (some ⟨w10.heap.size, 0, none⟩) 2 2, .slice (some ⟨w10.heap.size + 1, 0, none⟩) 1 1] 22)
  have hrow := new_row wx #[.slice (some ⟨w10.heap.size, 0, none⟩) 2 2, .slice (some ⟨w10.heap.size + 1, 0, none⟩) 1 1] 22 (0, 0)
  rw [hsz] at hrow
  have hRD : RdR (wx.alloc (.cells #[.slice (some ⟨w10.heap.size, 0, none⟩) 2 2, .slice (some ⟨w10.heap.size + 1, 0, none⟩) 1 1] 22)) ⟨some ⟨w10.heap.size + 1 + 1, 0, none⟩, 2, [⟨some ⟨w10.heap.size, 0, none⟩, 2, [1, 2]⟩, ⟨some ⟨w10.heap.size + 1, 0, none⟩, 1, [0]⟩]⟩ :=
    ⟨⟨hrow, rfl, Nat.le_refl 2, by show 2 ≤ 9223372036854775807; decide, fun h => by cases h⟩, fun x hx => by
      simp only [List.mem_cons, List.not_mem_nil, or_false] at hx
      rcases hx with rfl | rfl
      · exact Sl.below hL0' ha3
      · exact Sl.below hL1 ha3⟩
  have hbx := hb12.trans (ha3.mono hb12.size)
  have hP12 := hP10.below hbx
  have C := sameRows_any (RdR.st _ _ _ HT.out hbx) hRD
  dsimp only [Sv.val] at C
  rw [HTl.out, HTN.out, show decide (([[1, 2], [0]] : List (List Int)) = List.map (·.l) [(⟨some ⟨w10.heap.size, 0, none⟩, 2, [1, 2]⟩ : Sv Int), ⟨some ⟨w10.heap.size + 1, 0, none⟩, 1, [0]⟩]) = true from rfl] at C
  refine C.mono ?_
  clear C
  rintro _ w11 ⟨rfl, hb11⟩
  have hWZ := (hW10.trans (hbx.mono hW10.size)).trans (hb11.mono (Nat.le_trans hW10.size hbx.size))
  have hP13 := hP12.below hb11
  obtain ⟨b, off, rfl⟩ := hP13.ptr (by decide) (by decide)
  obtain ⟨d0, d1⟩ := hP13.drs_at (i := 0) (by decide)
  clear hP12 hb11 hbx hRD hrow ha3 hb12 hL0' hsz hL1 hL0 ha1 ha2 hP10 hW10 hP13
  rw [Nat.zero_mul, Nat.add_zero] at d0
  change w11.cell? ⟨b, off, none⟩ = some (.int .i64 1) at d0
  rw [Nat.zero_mul, Nat.add_zero] at d1
  change w11.cell? ⟨b, off + 1, none⟩ = some (.int .i64 2) at d1
  go_wp2_with fail
  go_ret
  exact ⟨rfl, hWZ⟩
end Go.Proofs.Ytbnmpagjfihjjaa
