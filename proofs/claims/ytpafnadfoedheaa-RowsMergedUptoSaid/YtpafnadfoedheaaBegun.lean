/-
  What must be in any case.
-/
import Derived.Test.YtpafnadfoedheaaMerge
import Derived.Test.YtpafnadfoedheaaThreads
import Derived.Test.YtpafnadfoedheaaSameR
namespace Go.Proofs.Ytpafnadfoedheaa
open Go.RowKit

theorem lit_evs (w : World) (l : List Ev) (hl : l.length ≤ 1000) (cs : Array Value) (hcs : cs.toList = evs l) (t : TypeId) (n : Nat) (hn : n = l.length) : Sl (w.alloc (.cells cs t)) 12 (some ⟨w.heap.size, 0, none⟩) n n (evs l) := by
  subst hn
  refine ⟨?_, by simp, Nat.le_refl _, by omega, fun h => by cases h⟩
  have := new_row w cs t (0, 0)
  rwa [hcs] at this
abbrev b1 : Ev := ⟨9, 1, 0, 0, 0, 0, 0, 0, 0, 0, 0, 0⟩
abbrev b2 : Ev := ⟨1, 3, 1, 0, 0, 0, 0, 0, 0, 0, 0, 0⟩
abbrev b3 : Ev := ⟨5, 1, 0, 0, 0, 0, 0, 0, 0, 0, 0, 0⟩
abbrev b4 : Ev := ⟨5, 2, 0, 0, 0, 0, 0, 0, 0, 0, 0, 0⟩
theorem begun_of : placesM (fun e => e.k == 1) [b1, b2] = ([1], 0) := by decide
theorem begun_bet : placesM (betB 0 3) [b1, b2] = ([0], 0) := by decide
theorem begun_merge : mergeM [b1, b2] [b3, b4] = ([b1, b3, b4, b2], 0) := by decide
theorem begun_thr : threadsM [b1, b2] 2 = ([[0], [1]], 0) := by decide
abbrev bc1 : Array Value := #[.int .i64 9, .int .i64 1, .int .i64 0, .int .i64 0, .int .i64 0, .int .i64 0, .int .i64 0, .int .i64 0, .int .i64 0, .int .i64 0, .int .i64 0, .int .i64 0, .int .i64 1, .int .i64 3, .int .i64 1, .int .i64 0, .int .i64 0, .int .i64 0, .int .i64 0, .int .i64 0, .int .i64 0, .int .i64 0, .int .i64 0, .int .i64 0]
abbrev bc2 : Array Value := #[.int .i64 5, .int .i64 1, .int .i64 0, .int .i64 0, .int .i64 0, .int .i64 0, .int .i64 0, .int .i64 0, .int .i64 0, .int .i64 0, .int .i64 0, .int .i64 0, .int .i64 5, .int .i64 2, .int .i64 0, .int .i64 0, .int .i64 0, .int .i64 0, .int .i64 0, .int .i64 0, .int .i64 0, .int .i64 0, .int .i64 0, .int .i64 0]

set_option maxHeartbeats 8000000 in
set_option maxRecDepth 100000 in
theorem begun_any (w : World) : Calls Try.prog 6 #[] w fun e w' => e = .returned (.bool true) ∧ Below w.heap.size w w' := by
  have hW1 := (Below.refl w.heap.size w).alloc (Nat.le_refl _) (.cells bc1 30)
  have hS1 : Sl (w.alloc (.cells bc1 30)) 12 (some ⟨w.heap.size, 0, none⟩) 2 2 (evs [b1, b2]) := lit_evs w [b1, b2] (by decide) bc1 rfl _ 2 rfl
  have hB : w.heap.size < (w.alloc (.cells bc1 30)).heap.size := by simp
  dsimp only [bc1] at hW1 hS1 hB
  go_enter Try.func6, Try.ntmps6
  go_wp2_with fail
  generalize w.alloc (.cells _ 30) = w1 at *
  have C := of_any (l := [b1, b2]) 1 hS1
  rw [begun_of] at C
  refine C.mono ?_
  clear C
  rintro _ w2 ⟨q2, c2, rfl, hq2, hb2⟩
  dsimp only at hq2
  have hS2 := hS1.below hb2
  have hW2 := hW1.trans (hb2.mono hW1.size)
  clear hS1 hb2 hW1
  go_wp2_with fail
  have C := between_any (l := [b1, b2]) 0 3 hS2
  rw [begun_bet] at C
  refine C.mono ?_
  clear C
  rintro _ w3 ⟨q3, c3, rfl, hq3, hb3⟩
  dsimp only at hq3
  have hS3 := hS2.below hb3
  have hQ2 := hq2.below hb3
  have hW3 := hW2.trans (hb3.mono hW2.size)
  clear hS2 hq2 hb3 hW2
  go_wp2_with fail
  have hal := (Below.refl w3.heap.size w3).alloc (Nat.le_refl _) (.cells bc2 30)
  have hT : Sl (w3.alloc (.cells bc2 30)) 12 (some ⟨w3.heap.size, 0, none⟩) 2 2 (evs [b3, b4]) := lit_evs w3 [b3, b4] (by decide) bc2 rfl _ 2 rfl
  have hS4 := hS3.below hal
  have hQ24 := hQ2.below hal
  have hQ34 := hq3.below hal
  have hW4 := hW3.trans (hal.mono hW3.size)
  dsimp only [bc2] at hT hS4 hQ24 hQ34 hW4
  clear hS3 hQ2 hq3 hal hW3
  generalize w3.alloc (.cells _ 30) = w4 at *
  have C := merge_any _ 2 [b1, b2] _ 2 [b3, b4] _ hS4 hT (by decide)
  rw [begun_merge] at C
  refine C.mono ?_
  clear C hT
  rintro _ w5 ⟨qm, cm, rfl, hM, hb5⟩
  dsimp only at hM
  have hS5 := hS4.below hb5
  have hQ25 := hQ24.below hb5
  have hQ35 := hQ34.below hb5
  have hW5 := hW4.trans (hb5.mono hW4.size)
  clear hS4 hQ24 hQ34 hb5 hW4
  go_wp2_with fail
  have C := threads_any (l := [b1, b2]) 2 hS5
  rw [begun_thr] at C
  refine C.mono ?_
  clear C hS5
  rintro _ w6 ⟨sT, rfl, hT, hTl, hb6⟩
  dsimp only at hTl
  have hM6 := hM.below hb6
  have hQ26 := hQ25.below hb6
  have hQ36 := hQ35.below hb6
  have hW6 := hW5.trans (hb6.mono hW5.size)
  clear hQ25 hQ35 hb6 hW5 hM
  go_wp2_with fail
  have hal := (Below.refl w6.heap.size w6).alloc (Nat.le_refl _) (.cells #[.int .i64 1] 3)
  have hL := lit_sl w6 [(1 : Int)] (by simp) #[.int .i64 1] rfl _ rfl 1 rfl
  have C := sameInts_any (l := [1]) (m := [1]) (hQ26.below hal) hL
  rw [show decide (([1] : List Int) = [1]) = true from by decide] at C
  have hM7 := hM6.below hal
  have hQ37 := hQ36.below hal
  have hT7 := RdR.st _ _ _ hT hal
  have hW7 := hW6.trans (hal.mono hW6.size)
  clear hL hal hQ26 hQ36 hM6 hW6 hT
  generalize w6.alloc (.cells _ 3) = w7 at *
  generalize w6.heap.size = L6 at *
  refine C.mono ?_
  clear C
  rintro _ w8 ⟨rfl, hb8⟩
  have hM8 := hM7.below hb8
  have hQ38 := hQ37.below hb8
  have hT8 := RdR.st _ _ _ hT7 hb8
  have hW8 := hW7.trans (hb8.mono hW7.size)
  clear hM7 hQ37 hT7 hW7 hb8
  go_wp2_with fail
  have hal := (Below.refl w8.heap.size w8).alloc (Nat.le_refl _) (.cells #[.int .i64 0] 3)
  have hL := lit_sl w8 [(0 : Int)] (by simp) #[.int .i64 0] rfl _ rfl 1 rfl
  have C := sameInts_any (l := [0]) (m := [0]) (hQ38.below hal) hL
  rw [show decide (([0] : List Int) = [0]) = true from by decide] at C
  have hM9 := hM8.below hal
  have hT9 := RdR.st _ _ _ hT8 hal
  have hW9 := hW8.trans (hal.mono hW8.size)
  clear hL hal hQ38 hM8 hW8 hT8
  generalize w8.alloc (.cells _ 3) = w9 at *
  generalize w8.heap.size = L8 at *
  refine C.mono ?_
  clear C
  rintro _ w10 ⟨rfl, hb10⟩
  have hM10 := hM9.below hb10
  have hT10 := RdR.st _ _ _ hT9 hb10
  have hW10 := hW9.trans (hb10.mono hW9.size)
  clear hM9 hT9 hW9 hb10
  obtain ⟨mb, mo, rfl⟩ := hM10.ptr (by decide) (by decide)
  have m0 := (hM10.ev_at (i := 0) (by decide)).h0
  have m1 := (hM10.ev_at (i := 1) (by decide)).h0
  have m3 := (hM10.ev_at (i := 3) (by decide)).h0
  rw [Nat.zero_mul, Nat.add_zero] at m0
  change w10.cell? ⟨mb, mo + 12, none⟩ = some (.int .i64 5) at m1
  change w10.cell? ⟨mb, mo + 36, none⟩ = some (.int .i64 1) at m3
  change w10.cell? ⟨mb, mo, none⟩ = some (.int .i64 9) at m0
  obtain ⟨tp, tc, tl⟩ := sT
  dsimp only [Sv.val] at *
  have htl : tl.length = 2 := by have := congrArg List.length hTl; simpa using this
  have HTl := Lib.hid hTl
  have HT := Lib.hid hT10
  have HTN := Lib.hid htl
  rw [HTN.out]
  clear hM10 hTl hT10 htl
  go_wp2_with fail
  have ha1 := (Below.refl w10.heap.size w10).alloc (Nat.le_refl _) (.cells #[.int .i64 0] 3)
  have ha2 := (Below.refl (w10.alloc (.cells #[.int .i64 0] 3)).heap.size (w10.alloc (.cells #[.int .i64 0] 3))).alloc (Nat.le_refl _) (.cells #[.int .i64 1] 3)
  have hL0 := lit_sl w10 [(0 : Int)] (by simp) #[.int .i64 0] rfl w10.heap.size rfl 1 rfl
  have hL1 := lit_sl (w10.alloc (.cells #[.int .i64 0] 3)) [(1 : Int)] (by simp) #[.int .i64 1] rfl (w10.heap.size + 1) (by simp) 1 rfl
  have hsz : ((w10.alloc (.cells #[.int .i64 0] 3)).alloc (.cells #[.int .i64 1] 3)).heap.size = w10.heap.size + 1 + 1 := by simp
  have hL0' := Sl.below hL0 ha2
  have hb12 := ha1.trans (ha2.mono (by simp))
  generalize (w10.alloc (.cells #[.int .i64 0] 3)).alloc (.cells #[.int .i64 1] 3) = wx at *
  have ha3 := (Below.refl wx.heap.size wx).alloc (Nat.le_refl _) (.cells #[.slice (some ⟨w10.heap.size, 0, none⟩) 1 1, .slice (some ⟨w10.heap.size + 1, 0, none⟩) 1 1] 33)
  have hrow := new_row wx #[.slice (some ⟨w10.heap.size, 0, none⟩) 1 1, .slice (some ⟨w10.heap.size + 1, 0, none⟩) 1 1] 33 (0, 0)
  rw [hsz] at hrow
  have hRD : RdR (wx.alloc (.cells #[.slice (some ⟨w10.heap.size, 0, none⟩) 1 1, .slice (some ⟨w10.heap.size + 1, 0, none⟩) 1 1] 33)) ⟨some ⟨w10.heap.size + 1 + 1, 0, none⟩, 2, [⟨some ⟨w10.heap.size, 0, none⟩, 1, [0]⟩, ⟨some ⟨w10.heap.size + 1, 0, none⟩, 1, [1]⟩]⟩ :=
    ⟨⟨hrow, rfl, Nat.le_refl 2, by show 2 ≤ 9223372036854775807; decide, fun h => by cases h⟩, fun x hx => by
      simp only [List.mem_cons, List.not_mem_nil, or_false] at hx
      rcases hx with rfl | rfl
      · exact Sl.below hL0' ha3
      · exact Sl.below hL1 ha3⟩
  have hbx := hb12.trans (ha3.mono hb12.size)
  have C := sameRows_any (RdR.st _ _ _ HT.out hbx) hRD
  dsimp only [Sv.val] at C
  rw [HTl.out, HTN.out, show decide (([[0], [1]] : List (List Int)) = List.map (·.l) [(⟨some ⟨w10.heap.size, 0, none⟩, 1, [0]⟩ : Sv Int), ⟨some ⟨w10.heap.size + 1, 0, none⟩, 1, [1]⟩]) = true from rfl] at C
  refine C.mono ?_
  clear C
  rintro _ w11 ⟨rfl, hb11⟩
  have hWZ := (hW10.trans (hbx.mono hW10.size)).trans (hb11.mono (Nat.le_trans hW10.size hbx.size))
  go_wp2_with fail
  go_ret
  exact ⟨rfl, hWZ⟩
end Go.Proofs.Ytpafnadfoedheaa
