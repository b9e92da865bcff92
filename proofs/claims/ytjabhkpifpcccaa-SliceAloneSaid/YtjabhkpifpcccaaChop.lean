/-
  The walk of Chop.
-/
import Derived.Test.YtjabhkpifpcccaaTop
namespace Go.Proofs.Ytjabhkpifpcccaa
open Go.RowKit

def chopM (ps : List Pt) (i j : Int) : List Int × Int := if checkM ps [i, j] = 0 then (listedL ps.length [onL ps i.toNat, backL ps j.toNat], 0) else ([], checkM ps [i, j])

set_option maxRecDepth 100000 in
set_option maxHeartbeats 2000000 in
theorem Chop_any {w : World} {p : Option Addr} {cap : Nat} {ps : List Pt} (hR : Deps w p cap ps) (i j : Int) :
    Calls Try.prog 12 #[.slice p ps.length cap, .int .i64 i, .int .i64 j] w fun e w' => ∃ p' c', e = .returned (.tuple #[.slice p' (chopM ps i j).1.length c', .int .i64 (chopM ps i j).2]) ∧ OwnI w' w.heap.size p' c' (chopM ps i j).1 ∧ Below w.heap.size w w' := by
  by_cases hc : checkM ps [i, j] = 0
  · have hx : chopM ps i j = (listedL ps.length [onL ps i.toNat, backL ps j.toNat], 0) := by unfold chopM; rw [if_pos hc]
    rw [hx]
    obtain ⟨hO, hi⟩ := checkM_zero hc
    have hi' := hi i (by simp)
    have hj' := hi j (by simp)
    obtain ⟨k, rfl⟩ := Int.eq_ofNat_of_zero_le hi'.1
    obtain ⟨m, rfl⟩ := Int.eq_ofNat_of_zero_le hj'.1
    have hkl : k < ps.length := by omega
    have hml : m < ps.length := by omega
    have h200 := hO.1
    rw [Int.toNat_natCast, Int.toNat_natCast]
    have Hc := Lib.hid hc; clear hx hi hc
    go_enter Try.func12, Try.ntmps12
    go_wp2_with fail
    have hal := (Below.refl w.heap.size w).alloc (Nat.le_refl _) (.cells #[.int .i64 (k : Int), .int .i64 (m : Int)] 3)
    refine (check_any (places := [(k : Int), (m : Int)]) (hR.below hal) (lit_sl w [(k : Int), (m : Int)] (by simp) _ rfl _ rfl 2 rfl)).mono ?_
    rintro _ w1 ⟨rfl, hb1⟩
    have hb := hal.trans (hb1.mono hal.size)
    clear hal hb1
    rw [Hc.out]
    go_wp2_with fail
    refine (on_any (hR.below hb) hO k hkl).mono ?_
    rintro _ w2 ⟨g, rfl, hB, hb2⟩
    replace hb := hb.trans (hb2.mono hb.size)
    clear hb2
    go_wp2_with fail
    refine (back_any (hR.below hb) hO m hml).mono ?_
    rintro _ w3 ⟨g2, rfl, hB2, hb3⟩
    replace hB := hB.below hb3
    replace hb := hb.trans (hb3.mono hb.size)
    clear hb3
    have hal := (Below.refl w3.heap.size w3).alloc (Nat.le_refl _) (.cells #[.slice (some ⟨g, 0, none⟩) ps.length ps.length, .slice (some ⟨g2, 0, none⟩) ps.length ps.length] 47)
    have hll : (onL ps k).length = ps.length := onL_length ps k
    have hll2 : (backL ps m).length = ps.length := backL_length ps m
    have hrow : Sl (w3.alloc (.cells #[.slice (some ⟨g, 0, none⟩) ps.length ps.length, .slice (some ⟨g2, 0, none⟩) ps.length ps.length] 47)) 1 (some ⟨w3.heap.size, 0, none⟩) 2 2 (brs [⟨g, onL ps k⟩, ⟨g2, backL ps m⟩]) := by
      refine ⟨?_, rfl, Nat.le_refl _, by omega, fun h => by cases h⟩
      have := new_row w3 #[.slice (some ⟨g, 0, none⟩) ps.length ps.length, .slice (some ⟨g2, 0, none⟩) ps.length ps.length] 47 (0, 0)
      show RowAt _ _ [BR.val ⟨g, onL ps k⟩, BR.val ⟨g2, backL ps m⟩]
      unfold BR.val
      rw [hll, hll2]
      exact this
    have hok : ∀ x ∈ [(⟨g, onL ps k⟩ : BR), ⟨g2, backL ps m⟩], BrOk (w3.alloc (.cells #[.slice (some ⟨g, 0, none⟩) ps.length ps.length, .slice (some ⟨g2, 0, none⟩) ps.length ps.length] 47)) x ∧ ps.length = x.l.length := by
      intro x hx
      rcases List.mem_cons.1 hx with rfl | hx
      · exact ⟨hB.sl.below hal, hll.symm⟩
      · obtain rfl := List.mem_singleton.1 hx
        exact ⟨hB2.sl.below hal, hll2.symm⟩
    have hlist := listed_any (rs := [⟨g, onL ps k⟩, ⟨g2, backL ps m⟩]) ps.length (by omega) hrow hok
    rw [listedM_eq] at hlist
    have HL := Lib.hid hlist; clear hlist hok hrow hll hll2
    go_wp2_with fail
    refine HL.out.mono ?_
    rintro _ w4 ⟨p3, c3, rfl, hown, hb4⟩
    have hz := hal.size
    have hz2 := hb.size
    go_wp2_with fail
    go_ret2
    exact ⟨p3, c3, rfl, own_mono hown (Nat.le_trans hz2 hz), (hb.trans (hal.mono hz2)).trans (hb4.mono (Nat.le_trans hz2 hz))⟩
  · have hx : chopM ps i j = ([], checkM ps [i, j]) := by unfold chopM; rw [if_neg hc]
    rw [hx]
    have hc' : (checkM ps [i, j] != 0) = true := by simpa using hc
    clear hx hc
    go_enter Try.func12, Try.ntmps12
    go_wp2_with fail
    have hal := (Below.refl w.heap.size w).alloc (Nat.le_refl _) (.cells #[.int .i64 i, .int .i64 j] 3)
    refine (check_any (places := [i, j]) (hR.below hal) (lit_sl w [i, j] (by simp) _ rfl _ rfl 2 rfl)).mono ?_
    rintro _ w1 ⟨rfl, hb1⟩
    go_wp2_with fail
    go_ret2
    exact ⟨none, 0, rfl, World.ownsRow_nil _ _ _ _, hal.trans (hb1.mono hal.size)⟩
end Go.Proofs.Ytjabhkpifpcccaa
