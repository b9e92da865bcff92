/-
  The walk of All.
-/
import Derived.Test.YtnpfkhaaogjhlaaPut
namespace Go.Proofs.Ytnpfkhaaogjhlaa
open Go.RowKit Go.Sort

theorem recs_take_succ {l : List Vl} {k : Nat} (h : k < l.length) : recs (l.take (k + 1)) = recs (l.take k) ++ recM (l.getD k .z) := by
  rw [List.take_add_one, List.getElem?_eq_getElem h, recs_append]
  simp [recs, h]
theorem errM_none {l : List Vl} (h : ∀ j, j < l.length → rightM (l.getD j .z) = 0) : errM l = 0 := by
  unfold errM
  have : l.find? (fun v => rightM v != 0) = none := by
    rw [List.find?_eq_none]
    intro x hx
    obtain ⟨i, hi, rfl⟩ := List.getElem_of_mem hx
    have := h i hi
    rw [List.getD_eq_getElem?_getD, List.getElem?_eq_getElem hi] at this
    simpa using this
  rw [this]; rfl
theorem errM_some {l : List Vl} {k : Nat} (hk : k < l.length) (h : ∀ j, j < k → rightM (l.getD j .z) = 0) (he : rightM (l.getD k .z) ≠ 0) : errM l = rightM (l.getD k .z) := by
  unfold errM
  have : l.find? (fun v => rightM v != 0) = some (l.getD k .z) := by
    rw [List.find?_eq_some_iff_getElem]
    refine ⟨by simpa using he, k, hk, by simp [hk], fun j hj => ?_⟩
    have := h j hj
    rw [List.getD_eq_getElem?_getD, List.getElem?_eq_getElem (by omega)] at this
    simpa using this
  rw [this]; rfl

set_option maxRecDepth 100000 in
set_option maxHeartbeats 1000000 in
theorem all_any {w : World} {p : Option Addr} {cap : Nat} {l : List Vl} (hR : Sl w 2 p l.length cap (vls l)) (hl : l.length ≤ 300) :
    Calls Try.prog 7 #[.slice p l.length cap] w fun e w' => ∃ p' c', e = .returned (.tuple #[.slice p' (allM l).1.length c', .int .i64 (allM l).2]) ∧ OwnB w' w.heap.size p' c' (allM l).1 ∧ Below w.heap.size w w' := by
  go_enter Try.func7, Try.ntmps7
  go_wp2_with fail
  go_loopw [4, 11] (fun v s wr => ∃ k p c, k ≤ l.length ∧ s = .int .i64 (k : Nat) ∧ v = .slice p (recs (l.take k)).length c ∧ OwnB wr w.heap.size p c (recs (l.take k)) ∧ Below w.heap.size w wr ∧ Hid (∀ j, j < k → rightM (l.getD j .z) = 0)) (fun _ s _ => l.length - (intOf s).toNat)
  case atStart => exact ⟨0, none, 0, Nat.zero_le _, rfl, rfl, World.ownsRow_nil _ _ _ _, Below.refl _ _, fun j h => by omega⟩
  case round =>
    obtain ⟨k, q, c, hk, rfl, rfl, hown, hbl, hno⟩ := hrel
    have hrl : (recs (l.take k)).length = k * 13 := by rw [recs_length, List.length_take, Nat.min_eq_left hk]
    by_cases hlt : k < l.length
    · obtain ⟨b, off, rfl, hb, hE⟩ := hR.vls_ptr hlt
      have hE' := hE.below hbl hb
      have hput := fun (wx : World) (h : Below wr.heap.size wr wx) => put_any (Sl.of_own (own_below hown h)) (by omega) (l.getD k .z)
      have hs := recs_take_succ hlt
      have hput0 : rightM (l.getD k .z) = 0 → putM (recs (l.take k)) (l.getD k .z) = (recs (l.take (k + 1)), 0) := fun h => by unfold putM; rw [if_neg (by omega), if_pos h, hs]
      have hput1 : rightM (l.getD k .z) ≠ 0 → putM (recs (l.take k)) (l.getD k .z) = ([], rightM (l.getD k .z)) := fun h => by unfold putM; rw [if_neg (by omega), if_neg h]
      have herr : rightM (l.getD k .z) ≠ 0 → allM l = ([], rightM (l.getD k .z)) := fun h => by
        unfold allM; rw [errM_some hlt hno.out h, if_neg h]
      have hno' : rightM (l.getD k .z) = 0 → Hid (∀ j, j < k + 1 → rightM (l.getD j .z) = 0) := fun h j hj => by
        rcases Nat.lt_or_ge j k with h3 | h3
        · exact hno.out j h3
        · rw [show j = k from by omega]; exact h
      have Hs := Lib.hid hs; clear hs
      generalize l.getD k .z = v at *
      obtain ⟨vk, vn⟩ := v
      obtain ⟨e0, e1⟩ := hE'
      dsimp only [Vl.val] at *
      have Hput := Lib.hid hput; have H0 := Lib.hid hput0; have H1 := Lib.hid hput1; have He := Lib.hid herr; have Hn := Lib.hid hno'
      clear hput hput0 hput1 herr hno' hno hE hrl
      have hal := (Below.refl wr.heap.size wr).alloc (Nat.le_refl _) (.cells #[.int .i64 vk, .int .i64 vn] 34)
      by_cases hr : rightM ⟨vk, vn⟩ = 0
      · have hp := H0.out hr
        have hn := Hn.out hr
        have hcall := Hput.out _ hal
        rw [hp] at hcall
        clear H0 H1 He Hput Hn hp hr
        go_wp2_with fail
        refine hcall.mono ?_
        clear hcall
        rintro _ w1 ⟨p1, c1, rfl, hown1, hb1⟩
        dsimp only at hown1 ⊢
        go_wp2_with fail
        go_roundw
        case rel =>
          have hz := hbl.size
          exact ⟨k + 1, p1, c1, by omega, by go_num, rfl, own_mono hown1 (by simp; omega), (hbl.trans (hal.mono hz)).trans (hb1.mono (by simp; omega)), hn⟩
        case measure => simp [intOf]; omega
      · have hp := H1.out hr
        have he := He.out hr
        have hcall := Hput.out _ hal
        rw [hp] at hcall
        have HE := Lib.hid he
        have hr' : (rightM ⟨vk, vn⟩ != 0) = true := by simpa using hr
        clear H0 H1 He Hput Hn hp he hr
        go_wp2_with fail
        refine hcall.mono ?_
        clear hcall
        rintro _ w1 ⟨p1, c1, rfl, hown1, hb1⟩
        dsimp only at hown1 ⊢
        go_wp2_with fail
        go_ret2
        rw [HE.out]
        have hz := hbl.size
        exact ⟨none, 0, rfl, World.ownsRow_nil _ _ _ _, (hbl.trans (hal.mono hz)).trans (hb1.mono (by simp; omega))⟩
    · obtain rfl : k = l.length := by omega
      have he : allM l = (recs l, 0) := by unfold allM; rw [errM_none hno.out, if_pos rfl]
      rw [List.take_length] at *
      have HE := Lib.hid he; clear he
      go_wp2_with fail
      go_ret2
      rw [HE.out]
      exact ⟨_, _, rfl, hown, hbl⟩
end Go.Proofs.Ytnpfkhaaogjhlaa
