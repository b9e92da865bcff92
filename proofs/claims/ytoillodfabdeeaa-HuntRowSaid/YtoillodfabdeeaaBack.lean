/-
  The walk of back.
-/
import Derived.Test.YtoillodfabdeeaaChk
import Derived.Test.YtoillodfabdeeaaBools
namespace Go.Proofs.Ytoillodfabdeeaa
open Go.RowKit

def usesAt (ps : List Pt) (k : Nat) : List Int := (ps.getD k .none).l
def setAll (s : List Bool) (us : List Int) : List Bool := us.foldl (fun s n => s.set n.toNat true) s
def backStep (ps : List Pt) (s : List Bool) (k : Nat) : List Bool := if s.getD k false then setAll s (usesAt ps k) else s
def backGo (ps : List Pt) (s : List Bool) : Nat → List Bool
  | 0 => s
  | k + 1 => backGo ps (backStep ps s k) k
def backL (ps : List Pt) (i : Nat) : List Bool := backGo ps ((List.replicate ps.length false).set i true) (i + 1)
@[simp] theorem setAll_length (s : List Bool) (us : List Int) : (setAll s us).length = s.length := by
  induction us generalizing s with
  | nil => rfl
  | cons a us ih => unfold setAll at *; rw [List.foldl_cons, ih]; simp
@[simp] theorem backStep_length (ps : List Pt) (s : List Bool) (k : Nat) : (backStep ps s k).length = s.length := by
  unfold backStep; split <;> simp
@[simp] theorem backGo_length (ps : List Pt) (s : List Bool) (k : Nat) : (backGo ps s k).length = s.length := by
  induction k generalizing s with
  | zero => rfl
  | succ k ih => unfold backGo; rw [ih]; simp
theorem setAll_snoc (s : List Bool) (us : List Int) (x : Int) : setAll s (us ++ [x]) = (setAll s us).set x.toNat true := by simp [setAll]
theorem int_take_snoc {l : List Int} {k : Nat} (h : k < l.length) : l.take (k + 1) = l.take k ++ [l.getD k 0] := by
  rw [List.take_add_one, List.getElem?_eq_getElem h]; simp [h]

set_option maxRecDepth 100000 in
set_option maxHeartbeats 2000000 in
theorem back_any {w : World} {p : Option Addr} {cap : Nat} {ps : List Pt} (hR : Deps w p cap ps) (hO : OkD ps) (i : Nat) (hi : i < ps.length) :
    Calls Try.prog 20 #[.slice p ps.length cap, .int .i64 i] w fun e w' => ∃ g, e = .returned (.slice (some ⟨g, 0, none⟩) ps.length ps.length) ∧ OwnBl w' w.heap.size g (backL ps i) ∧ Below w.heap.size w w' := by
  obtain ⟨i0, hi0, hz0, hz1, hz2⟩ := info_parts infoBl
  have h200 := hO.1
  go_enter Try.func20, Try.ntmps20
  go_wp2_with (at_make; refine wpList_make_full _ rfl _ _ 45 rfl w.heap.size 4 i0 (.bool false) 1 Try.underlying45 hi0 hz0 hz1 .i64 .i64 _ _ ps.length rfl rfl rfl rfl (by rw [hz2]; omega) (by unfold maxLen; omega) (Nat.le_refl _) ?_; intro w1 hown hg; have hB1 := ownBl_made hown; have hc0 := hB1.cell (i := i) (by simpa using hi); have hf0 := hB1.frozen i)
  have hb1 := below_of_none hg
  have hB2 := hB1.set i true
  have hb2 := hb1.setCell (p := ⟨w.heap.size, i, none⟩) (Nat.le_refl _) (.bool true)
  generalize w1.setCell ⟨w.heap.size, i, none⟩ (.bool true) = w2 at *
  clear hown hg hc0 hf0 hB1 hb1
  go_wp2_with fail
  go_loopw [6] (fun s wr => ∃ (k : Nat) (st : List Bool), k ≤ i + 1 ∧ s = .int .i64 ((k : Int) - 1) ∧ st.length = ps.length ∧ OwnBl wr w.heap.size w.heap.size st ∧ Below w.heap.size w wr ∧ Hid (backGo ps st k = backL ps i)) (fun s _ => (intOf s + 1).toNat)
  case atStart => exact ⟨i + 1, _, Nat.le_refl _, by go_num, by simp, hB2, hb2, rfl⟩
  case round =>
    clear hB2 hb2
    obtain ⟨k, st, hk, rfl, hl, hB, hb, hgo⟩ := hrel
    cases k with
    | zero =>
      have hs : st = backL ps i := hgo.out
      subst hs
      rw [show ((0 : Nat) : Int) - 1 = -1 from by omega]
      go_wp2_with fail
      go_ret
      exact ⟨_, rfl, hB, hb⟩
    | succ k =>
      have hk1 : ((k + 1 : Nat) : Int) - 1 = (k : Int) := by omega
      rw [hk1]
      have hkl : k < ps.length := by omega
      have hkl' : (k : Int) < (ps.length : Int) := by omega
      have hc := hB.cell (i := k) (by omega)
      have Hl := Lib.hid hl; have Hk1 := Lib.hid hk1; clear hl hk1
      cases hv : st.getD k false with
      | false =>
        have hg2 : Hid (backGo ps st k = backL ps i) := by
          have := hgo.out; unfold backGo backStep at this; rw [hv] at this; exact this
        rw [hv] at hc
        clear hv
        go_wp2_with fail
        go_roundw
        case rel => exact ⟨k, st, by omega, by go_num, Hl.out, hB, hb, hg2⟩
        case measure => simp [intOf]
      | true =>
        have hg2 : Hid (backGo ps (setAll st (usesAt ps k)) k = backL ps i) := by
          have := hgo.out; unfold backGo backStep at this; rw [hv] at this; exact this
        rw [hv] at hc
        clear hv hgo
        obtain ⟨b, off, rfl, hbb, hcc, hpt⟩ := hR.at_ hkl
        have hcu := (hb.cell (p := ⟨b, off + k, none⟩) hbb).trans hcc
        have hpt' : Sl w 1 _ _ _ _ := hpt
        have hrange := hO.2 k hkl
        have hus : usesAt ps k = (ps.getD k .none).l := rfl
        rw [hus] at hg2
        clear hus hcc hpt
        generalize ps.getD k .none = x at *
        obtain ⟨xp, xc, xl⟩ := x
        dsimp only [Pt.val] at *
        have hxl : xl.length ≤ 9223372036854775807 := Nat.le_trans hpt'.le hpt'.big
        have hsl := Hl.out
        go_wp2_with fail
        clear hcu hbb
        go_loopw [31] (fun s wr => ∃ (j : Nat) (st2 : List Bool), j ≤ xl.length ∧ s = .int .i64 (j : Nat) ∧ OwnBl wr w.heap.size w.heap.size st2 ∧ Below w.heap.size w wr ∧ Hid (setAll st (xl.take j) = st2)) (fun s _ => xl.length - (intOf s).toNat)
        case atStart => exact ⟨0, st, Nat.zero_le _, rfl, hB, hb, rfl⟩
        case round =>
          clear hB hb
          obtain ⟨j, st2, hj, rfl, hB, hb, hst⟩ := hrel
          have hl2 : st2.length = ps.length := by rw [← hst.out, setAll_length, hsl]
          by_cases hjl : j < xl.length
          · have hx := hrange (xl.getD j 0) (by simp [hjl])
            obtain ⟨b2, off2, rfl, hb2, hc2⟩ := Sl.int_at hpt' hjl
            have hc3 := (hb.cell (p := ⟨b2, off2 + j, none⟩) hb2).trans hc2
            have hsn := setAll_snoc st (xl.take j) (xl.getD j 0)
            rw [← int_take_snoc hjl, hst.out] at hsn
            obtain ⟨y, hy⟩ := Int.eq_ofNat_of_zero_le hx.1
            rw [hy] at hc3 hx hsn
            rw [Int.toNat_natCast] at hsn
            have hyl : y < ps.length := by omega
            have hyl' : (y : Int) < (ps.length : Int) := by omega
            have hcc := hB.cell (i := y) (by omega)
            have hff := hB.frozen y
            have Hsn := Lib.hid hsn; clear hsn hy hc2 hst
            generalize st2.getD y false = old at *
            go_wp2_with fail
            go_roundw
            case rel => exact ⟨j + 1, _, by omega, by go_num, hB.set y true, hb.setCell (p := ⟨_, _, none⟩) (Nat.le_refl _) _, Hsn.out⟩
            case measure => simp [intOf]; omega
          · obtain rfl : j = xl.length := by omega
            have hst' := hst.out
            rw [List.take_length] at hst'
            rw [hst'] at hg2
            have Hl2 := Lib.hid hl2; clear hl2 hst' hst hsl
            go_wp2_with fail
            go_roundw
            case rel => exact ⟨k, st2, by omega, by go_num, Hl2.out, hB, hb, hg2⟩
            case measure => simp [intOf]
end Go.Proofs.Ytoillodfabdeeaa
