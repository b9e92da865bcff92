/-
  The walk of WatchBack.
-/
import Derived.Test.YtngippkfmdcdoaaCutLaw
namespace Go.Proofs.Ytngippkfmdcdoaa
open Go.RowKit

set_option maxRecDepth 100000 in
set_option maxHeartbeats 2000000 in
theorem backLaw_any (p : Option Addr) (cap : Nat) (l : List Ev) (c q : Int) (w : World) (hS : Sl w 12 p l.length cap (evs l)) (_ : ∀ e ∈ l, e.Wf) :
    Calls Try.prog 5 #[.slice p l.length cap, .int .i64 c, .int .i64 q] w fun e w' => e = .returned (.bool true) ∧ Below w.heap.size w w' := by
  go_enter Try.func5, Try.ntmps5
  go_wp2_with fail
  refine (begun_any w).mono ?_
  rintro _ w1 ⟨rfl, hb1⟩
  have hS1 := hS.below hb1
  go_wp2_with fail
  refine (writesOf_any p cap l c q w1 hS1).mono ?_
  rintro _ w2 ⟨p2, c2, rfl, hown, hb2⟩
  have hS2 := hS1.below hb2
  replace hb2 := hb1.trans (hb2.mono hb1.size)
  clear hb1 hS1
  by_cases hc : chk l.length 0 = 0
  · have h2 := (chk_zero hc).2.2
    have hm : writesM l c q = (writesUpto l c q l.length, 0) := by unfold writesM; rw [if_pos hc]
    rw [hm] at hown
    rw [hm]
    dsimp only at hown ⊢
    have hT := Sl.of_own hown
    obtain ⟨ws, hws⟩ : ∃ ws, writesUpto l c q l.length = ws := ⟨_, rfl⟩
    rw [hws] at hT ⊢
    have hwl : ws.length ≤ l.length := by rw [← hws]; unfold writesUpto; rw [List.length_map]; exact Nat.le_trans (List.length_filter_le _ _) (by simp)
    have Hws := Lib.hid hws; have Hc := Lib.hid hc; clear hws hc hm hown
    go_wp2_with fail
    go_loopw [9, 10] (fun a s wr => ∃ (n m : Nat), n ≤ l.length ∧ m ≤ ws.length ∧ a = .int .i64 n ∧ s = .int .i64 ((m : Int) - 1) ∧ Hid (writesUpto l c q n = ws.take m) ∧ Below w2.heap.size w2 wr) (fun a s _ => (intOf s + 1).toNat)
    case atStart => exact ⟨l.length, ws.length, Nat.le_refl _, Nat.le_refl _, by go_num, by go_num, by show _ = _; rw [Hws.out, List.take_of_length_le (Nat.le_refl _)], Below.refl _ _⟩
    case round =>
      obtain ⟨n, m, hn, hm, rfl, rfl, hw, hbk⟩ := hrel
      have hlast := fun p1 c1 (hx : Sl wr 12 p1 l.length c1 (evs l)) => last_any p1 c1 l c q n wr hx
      have hchk : chk l.length n = 0 := chk_of (by omega) (by omega) h2
      have hSr := hS2.below hbk
      cases hl : lastBelow (fun j => (at_ l j).wr c q) n with
      | none =>
        have hz := writes_none hl
        rw [hw.out] at hz
        have hm0 : m = 0 := by
          have := congrArg List.length hz
          simp at this
          rcases this with h | h
          · exact h
          · subst h; simp at hm; exact hm
        subst hm0
        have hv : lastM l c q n = (0, false, 0) := by unfold lastM; rw [if_pos hchk, Int.toNat_natCast, hl]
        have Hv := Lib.hid hv; clear hv hl hz
        rw [show ((0 : Nat) : Int) - 1 = -1 by omega]
        go_wp2_with fail
        refine (hlast _ _ hSr).mono ?_
        rintro _ w3 ⟨rfl, hb3⟩
        rw [Hv.out]
        unfold ibi
        dsimp only
        go_wp2_with fail
        refine (begun_any w3).mono ?_
        rintro _ w4 ⟨rfl, hb4⟩
        go_wp2
        go_ret
        exact ⟨rfl, hb2.trans ((hbk.trans ((hb3.trans (hb4.mono hb3.size)).mono hbk.size)).mono hb2.size)⟩
      | some k =>
        have hz := writes_some hl
        rw [hw.out] at hz
        obtain ⟨g1, -, -⟩ := lastBelow_eq hl
        have hv : lastM l c q n = ((k : Int), true, 0) := by unfold lastM; rw [if_pos hchk, Int.toNat_natCast, hl]
        have hmp : 0 < m := by
          rcases Nat.eq_zero_or_pos m with h | h
          · subst h; simp at hz
          · exact h
        obtain ⟨j, hj⟩ : ∃ j, m = j + 1 := ⟨m - 1, by omega⟩
        subst hj
        have hjl : j < ws.length := by omega
        rw [List.take_add_one, List.getElem?_eq_getElem hjl] at hz
        obtain ⟨z1, z2⟩ := List.append_inj' hz rfl
        have z3 : ws.getD j 0 = (k : Int) := by rw [List.getD_eq_getElem?_getD, List.getElem?_eq_getElem hjl]; simpa using z2
        obtain ⟨b, off, rfl, hb, hcell⟩ := Sl.int_at hT hjl
        have hcr := (hbk.cell (p := ⟨b, off + j, none⟩) hb).trans hcell
        rw [z3] at hcr
        have Hv := Lib.hid hv; have Hz := Lib.hid z1; clear hv hl hz z2 z3 z1 hcell
        have hj1 : (((j + 1 : Nat) : Int) - 1) = (j : Int) := by omega
        rw [hj1]
        have hjl' : (j : Int) < (ws.length : Int) := by omega
        have hkn : (k : Int) < (n : Int) := by omega
        clear hj1
        go_wp2_with fail
        refine (hlast _ _ hSr).mono ?_
        rintro _ w3 ⟨rfl, hb3⟩
        rw [Hv.out]
        have hcr3 := (hb3.cell (p := ⟨b, off + j, none⟩) (Nat.lt_of_lt_of_le hb hbk.size)).trans hcr
        unfold ibi
        dsimp only
        go_wp2
        go_roundw
        case rel => exact ⟨k, j, by omega, by omega, by go_num, by go_num, Hz.out.symm, hbk.trans (hb3.mono hbk.size)⟩
        case measure => simp [intOf]; try omega
  · have hc' : (chk l.length 0 != 0) = true := by simpa using hc
    have hm : writesM l c q = ([], chk l.length 0) := by unfold writesM; rw [if_neg hc]
    rw [hm]
    dsimp only
    have Hc := Lib.hid hc; clear hc hm hown
    go_wp2_with fail
    refine (begun_any w2).mono ?_
    rintro _ w3 ⟨rfl, hb3⟩
    go_wp2
    go_ret
    exact ⟨rfl, hb2.trans (hb3.mono hb2.size)⟩
end Go.Proofs.Ytngippkfmdcdoaa
