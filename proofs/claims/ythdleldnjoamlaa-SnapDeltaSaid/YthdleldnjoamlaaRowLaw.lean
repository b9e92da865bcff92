/-
  The walk of SnapRow.
-/
import Derived.Test.YthdleldnjoamlaaBegun
import Derived.Test.YthdleldnjoamlaaFast
import Derived.RegionTactic
import Derived.BigRegion
namespace Go.Proofs.Ythdleldnjoamlaa
open Go.RowKit

theorem cut_ints {w : World} {p : Option Addr} {cap : Nat} {l : List Int} (h : SlI w p cap l) (N : Nat) (M : Int) (hM : M = (N : Int)) : ∃ l' : List Int, l'.length ≤ N ∧ min (l.length : Int) M = (l'.length : Int) ∧ SlI w p cap l' ∧ l'.length ≤ l.length := by
  subst hM
  have e : (l.take (min l.length N)).length = min l.length N := by simp
  refine ⟨l.take (min l.length N), by omega, by rw [e]; omega, ?_, by omega⟩
  have := h.take (m := min l.length N) (by omega)
  rw [Nat.mul_one, ← ints_take] at this
  unfold SlI
  rw [e]
  exact this
/-- A delta, and the list patched. -/
theorem apply_len2 {a b : List Int} : (applyL (padL a b.length) (deltaL a b)).length = b.length := by rw [apply_len, pad_len]

set_option maxRecDepth 100000 in
set_option maxHeartbeats 1000000 in
theorem rowLaw_any {w : World} {p1 p2 p3 : Option Addr} {c1 c2 c3 : Nat} {a0 b0 d0 : List Int} (hA0 : SlI w p1 c1 a0) (hB0 : SlI w p2 c2 b0) (hC0 : SlI w p3 c3 d0) :
    Calls Try.prog 5 #[.slice p1 a0.length c1, .slice p2 b0.length c2, .slice p3 d0.length c3] w fun e w' => e = .returned (.bool true) ∧ Below w.heap.size w w' := by
  obtain ⟨a, hla, hm1, hA, hga⟩ := cut_ints hA0 200 200 rfl
  obtain ⟨b, hlb, hm2, hB, hgb⟩ := cut_ints hB0 200 200 rfl
  obtain ⟨d, hld, hm3, hC, hgd⟩ := cut_ints hC0 200 200 rfl
  have z1 := hA0.le
  have z2 := hA0.big
  have z3 := hB0.le
  have z4 := hB0.big
  have z5 := hC0.le
  have z6 := hC0.big
  have y1 : a.length ≤ c1 := by omega
  have y2 : b.length ≤ c2 := by omega
  have y3 : d.length ≤ c3 := by omega
  clear hA0 hB0 hC0
  have y1I : (a.length : Int) ≤ (c1 : Int) := by omega
  have y2I : (b.length : Int) ≤ (c2 : Int) := by omega
  have y3I : (d.length : Int) ≤ (c3 : Int) := by omega
  go_enter Try.func5, Try.ntmps5
  go_wp2_with fail
  refine (begun_any _).mono ?_
  rintro _ w1 ⟨rfl, hB1⟩
  go_wp2_with fail
  have hi1 : (if (200 : Int) < (a0.length : Int) then (200 : Int) else (a0.length : Int)) = (a.length : Int) := by split <;> omega
  have hi2 : (if (200 : Int) < (b0.length : Int) then (200 : Int) else (b0.length : Int)) = (b.length : Int) := by split <;> omega
  have hi3 : (if (200 : Int) < (d0.length : Int) then (200 : Int) else (d0.length : Int)) = (d.length : Int) := by split <;> omega
  refine quiet_below rfl (by kernel_rfl) (by kernel_rfl) ?_
  repeat (go_big_quiet_step (fail))
  refine wpQuiet_nil ?_
  intro w2 hw2
  try simp only [hi1, hi2, hi3, Int.toNat_natCast]
  have hB2 := hB1.trans (hw2.mono hB1.size)
  clear hm1 hm2 hm3 hB1 hw2 hi1 hi2 hi3
  have hA2 := hA.below hB2; have hBB2 := hB.below hB2; have hC2 := hC.below hB2
  clear hA hB hC
  have hn := Delta_any hA2 hBB2 (by omega)
  go_wp2_with fail
  refine hn.mono ?_
  rintro _ w3 ⟨s, rfl, hs, hS, hb⟩
  have hn2 := Patched_any (hA2.below hb) (n := b.length) (by omega) hS (by rw [hs]; exact delta_ok a b)
  rw [hs, delta_there] at hn2
  have hB3 := hB2.trans (hb.mono hB2.size)
  have hA3 := hA2.below hb; have hBB3 := hBB2.below hb; have hC3 := hC2.below hb
  clear hn hB2 hA2 hBB2 hC2 hS hs hb
  go_wp2_with fail
  refine hn2.mono ?_
  rintro _ w4 ⟨q1, rfl, hX, hb⟩
  have hB4 := hB3.trans (hb.mono hB3.size)
  have hA4 := hA3.below hb; have hBB4 := hBB3.below hb; have hC4 := hC3.below hb
  clear hn2 hB3 hA3 hBB3 hC3 hb
  have hn := Delta_any hBB4 hC4 (by omega)
  go_wp2_with fail
  refine hn.mono ?_
  rintro _ w5 ⟨s, rfl, hs, hS, hb⟩
  have hn2 := Patched_any (a := b) (hX.below hb) (n := d.length) (by omega) hS (by rw [hs]; exact delta_ok b d)
  rw [hs, delta_there] at hn2
  have hB5 := hB4.trans (hb.mono hB4.size)
  have hA5 := hA4.below hb; have hC5 := hC4.below hb
  clear hn hB4 hA4 hBB4 hC4 hS hs hb hX
  go_wp2_with fail
  refine hn2.mono ?_
  rintro _ w6 ⟨q2, rfl, hY, hb⟩
  have hB6 := hB5.trans (hb.mono hB5.size)
  have hA6 := hA5.below hb; have hC6 := hC5.below hb
  clear hn2 hB5 hA5 hC5 hb
  have hn := Delta_any hC6 hA6 (by omega)
  go_wp2_with fail
  refine hn.mono ?_
  rintro _ w7 ⟨s, rfl, hs, hS, hb⟩
  have hn2 := Patched_any (a := d) (hY.below hb) (n := a.length) (by omega) hS (by rw [hs]; exact delta_ok d a)
  rw [hs, delta_there] at hn2
  have hB7 := hB6.trans (hb.mono hB6.size)
  have hA7 := hA6.below hb; have hC7 := hC6.below hb; have hY7 := hY.below hb
  clear hn hB6 hA6 hC6 hS hs hb hY
  go_wp2_with fail
  refine hn2.mono ?_
  rintro _ w8 ⟨q3, rfl, hZ, hb⟩
  have hB8 := hB7.trans (hb.mono hB7.size)
  have hA8 := hA7.below hb; have hC8 := hC7.below hb; have hY8 := hY7.below hb
  clear hn2 hB7 hA7 hC7 hY7 hb
  go_wp2_with fail
  refine (begun_any _).mono ?_
  rintro _ w9 ⟨rfl, hb⟩
  have hB9 := hB8.trans (hb.mono hB8.size)
  have hn := sameI_is (hY8.below hb) (hC8.below hb) (b := true) (decide_eq_true rfl)
  have hA9 := hA8.below hb; have hZ9 := hZ.below hb
  clear hB8 hA8 hC8 hY8 hZ hb
  go_wp2_with fail
  refine hn.mono ?_
  rintro _ w10 ⟨rfl, hb⟩
  have hB10 := hB9.trans (hb.mono hB9.size)
  have hn2 := sameI_is (hZ9.below hb) (hA9.below hb) (b := true) (decide_eq_true rfl)
  clear hn hB9 hA9 hZ9 hb
  go_wp2_with fail
  refine hn2.mono ?_
  rintro _ w11 ⟨rfl, hb⟩
  have hB11 := hB10.trans (hb.mono hB10.size)
  go_wp2_with fail
  go_ret
  exact ⟨rfl, hB11⟩
end Go.Proofs.Ythdleldnjoamlaa
