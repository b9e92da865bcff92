/-
  The walk of check.
-/
import Derived.Test.YtoillodfabdeeaaDeps
import Derived.Test.YtoillodfabdeeaaFnI
namespace Go.Proofs.Ytoillodfabdeeaa
open Go.RowKit

def depBad (ps : List Pt) (i : Nat) : Bool := (ps.getD i .none).l.any fun n => decide (n < 0) || decide ((i : Int) ≤ n)
def placeBad (n : Nat) (x : Int) : Bool := decide (x < 0) || decide ((n : Int) ≤ x)
def checkM (ps : List Pt) (places : List Int) : Int :=
  if 200 < ps.length then 2 else if (List.range ps.length).any (depBad ps) then 3 else if places.any (placeBad ps.length) then 1 else 0
/-- Each place uses earlier ones. -/
def OkD (ps : List Pt) : Prop := ps.length ≤ 200 ∧ ∀ i, i < ps.length → ∀ n ∈ (ps.getD i .none).l, 0 ≤ n ∧ n < i
theorem checkM_zero {ps : List Pt} {places : List Int} (h : checkM ps places = 0) : OkD ps ∧ ∀ x ∈ places, 0 ≤ x ∧ x < ps.length := by
  unfold checkM at h
  split at h
  · omega
  · next h1 =>
    split at h
    · omega
    · next h2 =>
      split at h
      · omega
      · next h3 =>
        refine ⟨⟨by omega, fun i hi n hn => ?_⟩, fun x hx => ?_⟩
        · rw [Bool.not_eq_true, List.any_eq_false] at h2
          have := h2 i (List.mem_range.2 hi)
          unfold depBad at this
          rw [List.any_eq_true] at this
          have h4 : ¬ ((decide (n < 0) || decide ((i : Int) ≤ n)) = true) := fun h => this ⟨n, hn, h⟩
          simp at h4
          exact h4
        · rw [Bool.not_eq_true, List.any_eq_false] at h3
          have := h3 x hx
          unfold placeBad at this
          simp at this
          exact this

theorem check1_pred {W : World} {B : Nat} {i : Int} (hB : Blk W B #[.int .i64 i] 3) : PredV W 27 #[.pointer (some ⟨B, 0, none⟩)] (Value.int .i64) (fun _ _ => True) (fun n => decide (n < 0) || decide (i ≤ n)) := by
  refine ⟨enters_own Try.func27 (by kernel_rfl) rfl, fun w' hb x _ => ?_⟩
  have hc := (hB.next hb).cell 0
  change w'.cell? ⟨B, 0, none⟩ = some (.int .i64 i) at hc
  by_cases h0 : x < 0
  · go_enter Try.func27, Try.ntmps27
    go_wp2
    go_ret
    exact ⟨ret_bool (by simp [h0]), Below.refl _ _⟩
  · go_enter Try.func27, Try.ntmps27
    go_wp2
    go_ret
    exact ⟨ret_bool (by simp; omega), Below.refl _ _⟩

set_option maxRecDepth 100000 in
set_option maxHeartbeats 2000000 in
theorem check_any {w : World} {p q : Option Addr} {cap cap2 : Nat} {ps : List Pt} {places : List Int} (hR : Deps w p cap ps) (hS : SlI w q cap2 places) :
    Calls Try.prog 18 #[.slice p ps.length cap, .slice q places.length cap2] w fun e w' => e = .returned (.int .i64 (checkM ps places)) ∧ Below w.heap.size w w' := by
  have hm : ps.length ≤ 9223372036854775807 := Nat.le_trans hR.sl.le hR.sl.big
  have hm2 : places.length ≤ 9223372036854775807 := Nat.le_trans hS.le hS.big
  by_cases h200 : 200 < ps.length
  · have hc : checkM ps places = 2 := by unfold checkM; rw [if_pos h200]
    have h200' : (200 : Int) < (ps.length : Int) := by omega
    rw [hc]
    clear hc
    go_enter Try.func18, Try.ntmps18
    go_wp2
    go_ret
    exact ⟨rfl, Below.refl _ _⟩
  · have h200' : ¬ (200 : Int) < (ps.length : Int) := by omega
    go_enter Try.func18, Try.ntmps18
    go_wp2_with fail
    go_loopw [14] (fun s wr => ∃ k : Nat, k ≤ ps.length ∧ s = .int .i64 k ∧ Below w.heap.size w wr ∧ Hid (∀ j, j < k → depBad ps j = false)) (fun s _ => ps.length - (intOf s).toNat)
    case atStart => exact ⟨0, Nat.zero_le _, rfl, Below.refl _ _, fun j h => by omega⟩
    case round =>
      obtain ⟨k, hk, rfl, hbl, hno⟩ := hrel
      by_cases hlt : k < ps.length
      · obtain ⟨b, off, rfl, hb, hc, hp⟩ := hR.at_ hlt
        have hc' := (hbl.cell (p := ⟨b, off + k, none⟩) hb).trans hc
        have hp' := Sl.below hp hbl
        have hbad : depBad ps k = true → checkM ps places = 3 := fun h => by
          unfold checkM; rw [if_neg h200, if_pos (List.any_eq_true.2 ⟨k, List.mem_range.2 hlt, h⟩)]
        have hok : depBad ps k = false → Hid (∀ j, j < k + 1 → depBad ps j = false) := fun h j hj => by
          rcases Nat.lt_or_ge j k with h3 | h3
          · exact hno.out j h3
          · rw [show j = k from by omega]; exact h
        have hz := hbl.size
        have HB := Lib.hid hbad; have HO := Lib.hid hok; clear hbad hok hno hc hp
        unfold depBad at HB HO
        generalize ps.getD k .none = x at *
        obtain ⟨xp, xc, xl⟩ := x
        dsimp only [Pt.val] at *
        go_wp2_with fail
        have bI := (Blk.mk_ wr #[.int .i64 (k : Int)] 3 rfl).alloc (.cells #[.slice xp xl.length xc] 51)
        have hal := ((Below.refl wr.heap.size wr).alloc (Nat.le_refl _) (.cells #[.int .i64 (k : Int)] 3)).alloc (by simp) (.cells #[.slice xp xl.length xc] 51)
        have hS2 := hp'.below hal
        refine (containsI_any (check1_pred bI) hS2 (fun _ _ _ _ => trivial)).mono ?_
        rintro _ w1 ⟨rfl, hb1⟩
        replace hbl := hbl.trans ((hal.trans (hb1.mono hal.size)).mono hz)
        clear hal hb1 hS2 bI
        cases hv : (xl.any fun n => decide (n < 0) || decide ((k : Int) ≤ n)) with
        | true =>
          have h := HB.out hv
          have H := Lib.hid h; clear h hv
          go_wp2_with fail
          go_ret
          exact ⟨ret_int H.out.symm, hbl⟩
        | false =>
          have h := HO.out hv
          clear hv
          go_wp2_with fail
          go_roundw
          case rel => exact ⟨k + 1, by omega, by go_num, hbl, h⟩
          case measure => simp [intOf]; omega
      · obtain rfl : k = ps.length := by omega
        have hr : (List.range ps.length).any (depBad ps) = false := by
          rw [List.any_eq_false]
          intro x hx
          have := hno.out x (List.mem_range.1 hx)
          simpa using this
        have Hr := Lib.hid hr; clear hr hno
        go_wp2_with fail
        go_loopw [26] (fun s wr => ∃ k : Nat, k ≤ places.length ∧ s = .int .i64 k ∧ Below w.heap.size w wr ∧ Hid (∀ j, j < k → placeBad ps.length (places.getD j 0) = false)) (fun s _ => places.length - (intOf s).toNat)
        case atStart => exact ⟨0, Nat.zero_le _, rfl, hbl, fun j h => by omega⟩
        case round =>
          clear hbl
          obtain ⟨k, hk, rfl, hbl, hno⟩ := hrel
          by_cases hlt : k < places.length
          · obtain ⟨b, off, rfl, hb, hc⟩ := Sl.int_at hS hlt
            have hc' := (hbl.cell (p := ⟨b, off + k, none⟩) hb).trans hc
            have hbad : placeBad ps.length (places.getD k 0) = true → checkM ps places = 1 := fun h => by
              unfold checkM; rw [if_neg h200, Hr.out, if_neg (by simp), if_pos (any_of_one hlt h)]
            have hok : placeBad ps.length (places.getD k 0) = false → Hid (∀ j, j < k + 1 → placeBad ps.length (places.getD j 0) = false) := fun h j hj => by
              rcases Nat.lt_or_ge j k with h3 | h3
              · exact hno.out j h3
              · rw [show j = k from by omega]; exact h
            have HB := Lib.hid hbad; have HO := Lib.hid hok; clear hbad hok hno hc
            unfold placeBad at HB HO
            generalize places.getD k 0 = x at *
            by_cases h0 : x < 0
            · have h := HB.out (by simp [h0])
              have H := Lib.hid h; clear h HO
              go_wp2_with fail
              go_ret
              exact ⟨ret_int H.out.symm, hbl⟩
            · by_cases h1 : (ps.length : Int) ≤ x
              · have h := HB.out (by simp [h1])
                have H := Lib.hid h; clear h HO
                go_wp2_with fail
                go_ret
                exact ⟨ret_int H.out.symm, hbl⟩
              · have h := HO.out (by simp [h0, h1])
                clear HB HO
                go_wp2_with fail
                go_roundw
                case rel => exact ⟨k + 1, by omega, by go_num, hbl, h⟩
                case measure => simp [intOf]; omega
          · obtain rfl : k = places.length := by omega
            have h : checkM ps places = 0 := by
              unfold checkM; rw [if_neg h200, Hr.out, if_neg (by simp), any_of_all (z := 0) hno.out, if_neg (by simp)]
            have H := Lib.hid h; clear h
            go_wp2_with fail
            go_ret
            exact ⟨ret_int H.out.symm, hbl⟩
end Go.Proofs.Ytoillodfabdeeaa
