/-
  The walk of WatchCut.
-/
import Derived.Test.YtngippkfmdcdoaaBegun
import Derived.Test.YtngippkfmdcdoaaLaws
import Derived.Test.YtngippkfmdcdoaaEvOpen
namespace Go.Proofs.Ytngippkfmdcdoaa
open Go.RowKit

theorem evsWf_of {l : List Ev} (h : ∀ e ∈ l, e.Wf) : EvsWf l := fun i hi => by
  have : at_ l i ∈ l := by
    unfold at_
    rw [List.getD_eq_getElem?_getD, List.getElem?_eq_getElem hi]
    exact List.getElem_mem hi
  exact ⟨(h _ this).A, (h _ this).B⟩

set_option maxRecDepth 100000 in
set_option maxHeartbeats 2000000 in
theorem cutLaw_any (p : Option Addr) (cap : Nat) (l : List Ev) (i : Int) (w : World) (hS : Sl w 12 p l.length cap (evs l)) (hwf : ∀ e ∈ l, e.Wf) :
    Calls Try.prog 4 #[.slice p l.length cap, .int .i64 i] w fun e w' => e = .returned (.bool true) ∧ Below w.heap.size w w' := by
  go_enter Try.func4, Try.ntmps4
  go_wp2_with fail
  refine (begun_any w).mono ?_
  rintro _ w1 ⟨rfl, hb1⟩
  have hS1 := hS.below hb1
  go_wp2_with fail
  refine (whole_any p cap l w1 hS1 (evsWf_of hwf)).mono ?_
  rintro _ w2 ⟨rfl, hb2⟩
  have hS2 := hS1.below hb2
  replace hb2 := hb1.trans (hb2.mono hb1.size)
  clear hb1 hS1
  unfold ibi'
  dsimp only
  by_cases hc : chk l.length 0 = 0
  · have h2 := (chk_zero hc).2.2
    have he : (wholeM l).2.2 = 0 := by unfold wholeM; rw [if_pos hc]; split <;> rfl
    rw [he]
    by_cases hi : i < 0 ∨ (l.length : Int) < i
    · have hno : (i < 0 || decide ((l.length : Int) < i)) = true := by simpa using hi
      generalize wholeM l = r
      go_wp2_with fail
      all_goals refine (begun_any w2).mono ?_
      all_goals rintro _ w3 ⟨rfl, hb3⟩
      all_goals go_wp2
      all_goals go_ret
      all_goals exact ⟨rfl, hb2.trans (hb3.mono hb2.size)⟩
    · obtain ⟨n, rfl⟩ := Int.eq_ofNat_of_zero_le (show 0 ≤ i by omega)
      have hn : n ≤ l.length := by omega
      have hn' : (n : Int) ≤ (l.length : Int) := by omega
      have hnc : n ≤ cap := Nat.le_trans hn hS.le
      obtain ⟨e1, e2, e3⟩ := cut_law hn h2
      have hS3 := hS2.ev_take hn
      have hwf' : EvsWf (l.take n) := evsWf_of fun e he => hwf e (List.mem_of_mem_take he)
      obtain ⟨l', hl'⟩ : ∃ l', l.take n = l' := ⟨_, rfl⟩
      have hlen : n = l'.length := by rw [← hl']; simp; omega
      rw [hl'] at e1 e2 e3 hS3 hwf'
      have Hlen := Lib.hid hlen; clear hlen hl' hi
      generalize wholeM l = r at *
      obtain ⟨k, no, er⟩ := r
      dsimp only at *
      go_wp2_with fail
      have hS4 : Sl w2 12 p l'.length cap (evs l') := by rw [← Hlen.out]; exact hS3
      rw [show (Value.slice p n cap) = .slice p l'.length cap by rw [Hlen.out]]
      refine (whole_any p cap l' w2 hS4 hwf').mono ?_
      rintro _ w3 ⟨rfl, hb3⟩
      unfold ibi'
      dsimp only
      generalize wholeM l' = r at *
      obtain ⟨k2, no2, er2⟩ := r
      dsimp only at *
      subst e1
      go_wp2_with fail
      refine (begun_any w3).mono ?_
      rintro _ w4 ⟨rfl, hb4⟩
      have hbt := hb2.trans ((hb3.trans (hb4.mono hb3.size)).mono hb2.size)
      cases no2 with
      | true =>
        obtain rfl := e3 rfl
        have e2' : no = true ∧ k2 < n := by simpa using e2.symm
        obtain ⟨rfl, hk⟩ := e2'
        clear e2 e3
        go_wp2
        all_goals go_ret
        all_goals exact ⟨by simp, hbt⟩
      | false =>
        have e2' : (no && decide (k < n)) = false := e2.symm
        clear e2 e3
        go_wp2
        all_goals go_ret
        all_goals exact ⟨by simp_all, hbt⟩
  · have hc' : (chk l.length 0 != 0) = true := by simpa using hc
    have hw : wholeM l = (0, false, chk l.length 0) := by unfold wholeM; rw [if_neg hc]
    rw [hw]
    dsimp only
    have Hc := Lib.hid hc; clear hc hw
    go_wp2_with fail
    refine (begun_any w2).mono ?_
    rintro _ w3 ⟨rfl, hb3⟩
    go_wp2
    go_ret
    exact ⟨rfl, hb2.trans (hb3.mono hb2.size)⟩
end Go.Proofs.Ytngippkfmdcdoaa
