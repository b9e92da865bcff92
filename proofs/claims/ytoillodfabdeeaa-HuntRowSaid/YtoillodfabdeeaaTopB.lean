/-
  The walk of Back.
-/
import Derived.Test.YtoillodfabdeeaaBack
import Derived.Test.YtoillodfabdeeaaListed
namespace Go.Proofs.Ytoillodfabdeeaa
open Go.RowKit

def listedL (n : Nat) (ls : List (List Bool)) : List Int := ((List.range n).filter fun i => ls.all fun l => l.getD i false).map fun i : Nat => (i : Int)
theorem listedM_eq (n : Nat) (rs : List BR) : listedM n rs = listedL n (rs.map (·.l)) := by
  unfold listedM listedL
  simp [List.all_map, Function.comp_def]
theorem backL_length (ps : List Pt) (i : Nat) : (backL ps i).length = ps.length := by unfold backL; rw [backGo_length]; simp
def backM (ps : List Pt) (i : Int) : List Int × Int := if checkM ps [i] = 0 then (listedL ps.length [backL ps i.toNat], 0) else ([], checkM ps [i])

set_option maxRecDepth 100000 in
set_option maxHeartbeats 2000000 in
theorem Back_any {w : World} {p : Option Addr} {cap : Nat} {ps : List Pt} (hR : Deps w p cap ps) (i : Int) :
    Calls Try.prog 10 #[.slice p ps.length cap, .int .i64 i] w fun e w' => ∃ p' c', e = .returned (.tuple #[.slice p' (backM ps i).1.length c', .int .i64 (backM ps i).2]) ∧ OwnI w' w.heap.size p' c' (backM ps i).1 ∧ Below w.heap.size w w' := by
  by_cases hc : checkM ps [i] = 0
  · have hx : backM ps i = (listedL ps.length [backL ps i.toNat], 0) := by unfold backM; rw [if_pos hc]
    rw [hx]
    obtain ⟨hO, hi⟩ := checkM_zero hc
    have hi' := hi i (by simp)
    obtain ⟨k, rfl⟩ := Int.eq_ofNat_of_zero_le hi'.1
    have hkl : k < ps.length := by omega
    have h200 := hO.1
    rw [Int.toNat_natCast]
    have Hc := Lib.hid hc; clear hx hi hc
    go_enter Try.func10, Try.ntmps10
    go_wp2_with fail
    have hal := (Below.refl w.heap.size w).alloc (Nat.le_refl _) (.cells #[.int .i64 (k : Int)] 3)
    refine (check_any (places := [(k : Int)]) (hR.below hal) (lit_sl w [(k : Int)] (by simp) _ rfl _ rfl 1 rfl)).mono ?_
    rintro _ w1 ⟨rfl, hb1⟩
    have hb := hal.trans (hb1.mono hal.size)
    clear hal hb1
    rw [Hc.out]
    go_wp2_with fail
    refine (back_any (hR.below hb) hO k hkl).mono ?_
    rintro _ w2 ⟨g, rfl, hB, hb2⟩
    replace hb := hb.trans (hb2.mono hb.size)
    clear hb2
    have hal := (Below.refl w2.heap.size w2).alloc (Nat.le_refl _) (.cells #[.slice (some ⟨g, 0, none⟩) ps.length ps.length] 45)
    have hll : (backL ps k).length = ps.length := backL_length ps k
    have hrow : Sl (w2.alloc (.cells #[.slice (some ⟨g, 0, none⟩) ps.length ps.length] 45)) 1 (some ⟨w2.heap.size, 0, none⟩) 1 1 (brs [⟨g, backL ps k⟩]) := by
      refine ⟨?_, rfl, Nat.le_refl _, by omega, fun h => by cases h⟩
      have := new_row w2 #[.slice (some ⟨g, 0, none⟩) ps.length ps.length] 45 (0, 0)
      show RowAt _ _ [BR.val ⟨g, backL ps k⟩]
      unfold BR.val
      rw [hll]
      exact this
    have hok : ∀ x ∈ [(⟨g, backL ps k⟩ : BR)], BrOk (w2.alloc (.cells #[.slice (some ⟨g, 0, none⟩) ps.length ps.length] 45)) x ∧ ps.length = x.l.length := by
      intro x hx
      obtain rfl := List.mem_singleton.1 hx
      exact ⟨hB.sl.below hal, hll.symm⟩
    have hlist := listed_any (rs := [⟨g, backL ps k⟩]) ps.length (by omega) hrow hok
    rw [listedM_eq] at hlist
    have HL := Lib.hid hlist; clear hlist hok hrow hll
    go_wp2_with fail
    refine HL.out.mono ?_
    rintro _ w3 ⟨p3, c3, rfl, hown, hb3⟩
    have hz := hal.size
    have hz2 := hb.size
    go_wp2_with fail
    go_ret2
    exact ⟨p3, c3, rfl, own_mono hown (Nat.le_trans hz2 hz), (hb.trans (hal.mono hz2)).trans (hb3.mono (Nat.le_trans hz2 hz))⟩
  · have hx : backM ps i = ([], checkM ps [i]) := by unfold backM; rw [if_neg hc]
    rw [hx]
    have hc' : (checkM ps [i] != 0) = true := by simpa using hc
    clear hx hc
    go_enter Try.func10, Try.ntmps10
    go_wp2_with fail
    have hal := (Below.refl w.heap.size w).alloc (Nat.le_refl _) (.cells #[.int .i64 i] 3)
    refine (check_any (places := [i]) (hR.below hal) (lit_sl w [i] (by simp) _ rfl _ rfl 1 rfl)).mono ?_
    rintro _ w1 ⟨rfl, hb1⟩
    go_wp2_with fail
    go_ret2
    exact ⟨none, 0, rfl, World.ownsRow_nil _ _ _ _, hal.trans (hb1.mono hal.size)⟩

end Go.Proofs.Ytoillodfabdeeaa
