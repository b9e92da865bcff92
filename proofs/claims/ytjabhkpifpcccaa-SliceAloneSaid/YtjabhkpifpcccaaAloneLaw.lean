/-
  The walk of SliceAlone.
-/
import Derived.Test.YtjabhkpifpcccaaBegun
import Derived.Test.YtjabhkpifpcccaaLaws2
namespace Go.Proofs.Ytjabhkpifpcccaa
open Go.RowKit

set_option maxRecDepth 100000 in
set_option maxHeartbeats 2000000 in
theorem aloneLaw_any (p : Option Addr) (cap : Nat) (l : List Ln) (i : Int) (w : World) (hR : Sl w 4 p l.length cap (lns l)) (hwf : ∀ x ∈ l, x.Wf) :
    Calls Try.prog 3 #[.slice p l.length cap, .int .i64 i] w fun e w' => e = .returned (.bool true) ∧ Below w.heap.size w w' := by
  by_cases hc : rightM l i = 0
  · obtain ⟨h200, -, h0, hil⟩ := rightM_zero hc
    obtain ⟨n, rfl⟩ := Int.eq_ofNat_of_zero_le h0
    have hnl : n < l.length := by omega
    obtain ⟨m, hm⟩ : ∃ m, m = aloneTo l (backS (usesL l) l.length n) l.length := ⟨_, rfl⟩
    obtain ⟨a1, a2, a3, a4, a5, a6⟩ := alone_law hc hm
    have hrun : runM l (n : Int) = (valAt l n, 0) := runM_eq hc
    have hal : aloneM l (n : Int) = (m, 0) := by unfold aloneM; rw [if_pos hc, Int.toNat_natCast, ← hm]
    have hmwf : ∀ x ∈ m, x.Wf := fun x hx => by
      rw [hm] at hx
      unfold aloneTo at hx
      obtain ⟨j, hj, rfl⟩ := List.mem_map.1 hx
      exact hwf _ (ln_mem (List.mem_range.1 (List.mem_filter.1 hj).1))
    obtain ⟨⟨o, eo⟩, ho⟩ : ∃ x, aloneM m ((m.length : Int) - 1) = x := ⟨_, rfl⟩
    rw [ho] at a5 a6
    dsimp only at a5 a6
    subst a5
    generalize valAt l n = v at *
    have Hrun := Lib.hid hrun; have Hal := Lib.hid hal; have Ho := Lib.hid ho; have H4 := Lib.hid a4; have H6 := Lib.hid a6
    have hq : ((o.length : Int) == (m.length : Int)) = true := by rw [a6]; simp
    have hle : (m.length : Int) ≤ (n : Int) + 1 := by omega
    have hvv : (v == v) = true := by simp
    clear hrun hal ho a3 a4 a6 hm hc h0 hil
    go_enter Try.func3, Try.ntmps3
    go_wp2_with fail
    refine (begun_any _).mono ?_
    rintro _ w1 ⟨rfl, hb⟩
    replace hR := hR.below hb
    have hB := hb
    clear hb
    go_wp2_with fail
    refine (run_is hR hwf (n : Int) Hrun.out).mono ?_
    rintro _ w2 ⟨rfl, hb⟩
    replace hR := hR.below hb
    replace hB := hB.trans (hb.mono hB.size)
    clear hb
    go_wp2_with fail
    refine (alone_is hR hwf (n : Int) Hal.out).mono ?_
    rintro _ w3 ⟨p3, c3, rfl, hM, hb⟩
    replace hB := hB.trans (hb.mono hB.size)
    clear hb hR
    go_wp2_with fail
    refine (run_is hM hmwf ((m.length : Int) - 1) H4.out).mono ?_
    rintro _ w4 ⟨rfl, hb⟩
    replace hM := hM.below hb
    replace hB := hB.trans (hb.mono hB.size)
    clear hb
    go_wp2_with fail
    refine (alone_is hM hmwf ((m.length : Int) - 1) Ho.out).mono ?_
    rintro _ w5 ⟨p5, c5, rfl, hO, hb⟩
    replace hB := hB.trans (hb.mono hB.size)
    clear hb hM hO
    go_wp2_with fail
    refine (begun_any _).mono ?_
    rintro _ w6 ⟨rfl, hb⟩
    replace hB := hB.trans (hb.mono hB.size)
    go_wp2_with fail
    go_ret
    exact ⟨rfl, hB⟩
  · have hrun : runM l i = (0, rightM l i) := by unfold runM; rw [if_neg hc]
    have hal : aloneM l i = ([], rightM l i) := by unfold aloneM; rw [if_neg hc]
    have hc' : (rightM l i != 0) = true := by simpa using hc
    have hee : (rightM l i == rightM l i) = true := by simp
    have Hrun := Lib.hid hrun; have Hal := Lib.hid hal; clear hrun hal hc
    generalize rightM l i = e0 at *
    go_enter Try.func3, Try.ntmps3
    go_wp2_with fail
    refine (begun_any _).mono ?_
    rintro _ w1 ⟨rfl, hb⟩
    replace hR := hR.below hb
    have hB := hb
    clear hb
    go_wp2_with fail
    refine (run_is hR hwf i Hrun.out).mono ?_
    rintro _ w2 ⟨rfl, hb⟩
    replace hR := hR.below hb
    replace hB := hB.trans (hb.mono hB.size)
    clear hb
    go_wp2_with fail
    refine (alone_is hR hwf i Hal.out).mono ?_
    rintro _ w3 ⟨p3, c3, rfl, hM, hb⟩
    replace hB := hB.trans (hb.mono hB.size)
    clear hb hR hM
    simp only [List.length_nil]
    go_wp2_with fail
    refine (begun_any _).mono ?_
    rintro _ w4 ⟨rfl, hb⟩
    replace hB := hB.trans (hb.mono hB.size)
    go_wp2_with fail
    go_ret
    exact ⟨rfl, hB⟩
end Go.Proofs.Ytjabhkpifpcccaa
