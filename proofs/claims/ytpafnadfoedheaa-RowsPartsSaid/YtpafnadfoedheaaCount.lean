/-
  Count: the events of each kind.
-/
import Derived.Test.YtpafnadfoedheaaEv
import Derived.Test.YtpafnadfoedheaaOwnI
import Derived.OwnWalk
namespace Go.Proofs.Ytpafnadfoedheaa
open Go.RowKit

def kd (e : Ev) : Nat := if 0 ≤ e.k ∧ e.k ≤ 17 then e.k.toNat else 0
theorem kd_lt (e : Ev) : kd e < 18 := by unfold kd; split <;> omega
/-- One more at place i. -/
def bump (l : List Int) (i : Nat) : List Int := l.set i (l.getD i 0 + 1)
theorem bump_len (l : List Int) (i : Nat) : (bump l i).length = l.length := by simp [bump]
theorem bump_sum {l : List Int} {i : Nat} (h : i < l.length) : (bump l i).sum = l.sum + 1 := by
  unfold bump
  induction l generalizing i with
  | nil => simp at h
  | cons x l ih =>
    cases i with
    | zero => simp; omega
    | succ i =>
      have := ih (i := i) (by simpa using h)
      simp only [List.set_cons_succ, List.sum_cons, List.getD_cons_succ]
      omega
def cntM (l : List Ev) : Nat → List Int
  | 0 => List.replicate 18 0
  | k + 1 => bump (cntM l k) (kd (l.getD k .z))
theorem cntM_len (l : List Ev) : ∀ k, (cntM l k).length = 18
  | 0 => by simp [cntM]
  | k + 1 => by rw [cntM, bump_len, cntM_len l k]
theorem cntM_sum (l : List Ev) : ∀ k, (cntM l k).sum = k
  | 0 => by simp [cntM]
  | k + 1 => by
    rw [cntM, bump_sum (by rw [cntM_len]; exact kd_lt _), cntM_sum l k]
    omega
theorem cntM_pos (l : List Ev) : ∀ k, ∀ x ∈ cntM l k, 0 ≤ x ∧ x ≤ k
  | 0, x, h => by simp [cntM] at h; omega
  | k + 1, x, h => by
    rw [cntM, bump] at h
    rcases List.mem_or_eq_of_mem_set h with h | h
    · have := cntM_pos l k x h; omega
    · have : (cntM l k).getD (kd (l.getD k .z)) 0 ∈ cntM l k := by
        rw [List.getD_eq_getElem?_getD, List.getElem?_eq_getElem (by rw [cntM_len]; exact kd_lt _)]
        exact List.getElem_mem _
      have := cntM_pos l k _ this
      omega
def countM (l : List Ev) : List Int × Int := if 200 < l.length then ([], 2) else (cntM l l.length, 0)

set_option maxHeartbeats 4000000 in
set_option maxRecDepth 100000 in
theorem count_any {w : World} {p : Option Addr} {cap : Nat} {l : List Ev} (hS : Sl w 12 p l.length cap (evs l)) :
    Calls Try.prog 9 #[.slice p l.length cap] w fun e w' => ∃ q c, e = .returned (.tuple #[.slice q (countM l).1.length c, .int .i64 (countM l).2]) ∧ SlI w' q c (countM l).1 ∧ Below w.heap.size w w' := by
  obtain ⟨i0, hi, hz0, hz1, hz2⟩ := info_parts infoI
  have l1 := hS.big
  have l2 := hS.le
  unfold countM
  by_cases hb : 200 < l.length
  · rw [if_pos hb]
    have hbz : (200 : Int) < (l.length : Int) := by omega
    go_enter Try.func9, Try.ntmps9
    go_wp2
    go_ret2
    exact ⟨none, 0, rfl, Sl.zero _ _, Below.refl _ _⟩
  · rw [if_neg hb]
    have hbz : ¬ (200 : Int) < (l.length : Int) := by omega
    have HS := Lib.hid hS
    clear hS
    dsimp only
    go_enter Try.func9, Try.ntmps9
    go_wp2_with (at_make; refine wpList_make_full _ rfl _ _ 33 rfl w.heap.size 3 i0 (.int .i64 0) 1 Try.underlying33 hi hz0 hz1 .i64 .i64 _ _ 18 rfl rfl rfl rfl (by rw [hz2]; omega) (by unfold maxLen; omega) (by simp) ?_; intro w1 hown hg)
    rw [made_ints] at hown
    have hbl := below_none hg
    clear hg
    have h1o : w.heap.size < w1.heap.size := (World.ownsRow.lt hown _ rfl).2
    go_loopw [14] (fun s wr => ∃ (k : Nat) (o : List Int), k ≤ l.length ∧ s = .int .i64 k ∧ wr.ownsRow w.heap.size 3 1 (.slice (some ⟨w.heap.size, 0, none⟩) 18 18) 18 (ints .i64 o) ∧ o.length = 18 ∧ Below w.heap.size w wr ∧ w.heap.size < wr.heap.size ∧ Hid (o = cntM l k)) (fun s _ => l.length - (intOf s).toNat)
    case atStart => exact ⟨0, List.replicate 18 0, Nat.zero_le _, rfl, hown, by simp, hbl, h1o, rfl⟩
    case round =>
      clear hown hbl h1o
      obtain ⟨k, o, hk, rfl, hown, hol, hbl, h1o, ho⟩ := hrel
      by_cases hlt : k < l.length
      · obtain ⟨b, off, rfl⟩ := HS.out.ptr (by omega) (by decide)
        have E1 := (HS.out.ev_at hlt).below hbl (HS.out.row.lt (by simp; omega))
        have hst : cntM l (k + 1) = bump (cntM l k) (kd (l.getD k .z)) := rfl
        generalize l.getD k .z = x at *
        obtain ⟨a0, a1, a2, a3, a4, a5, a6, a7, a8, a9, a10, a11⟩ := E1
        have hz := hbl.size
        have HOL := Lib.hid hol
        have hpos : ∀ i, i < 18 → 0 ≤ o.getD i 0 ∧ o.getD i 0 ≤ 200 := fun i hi => by
          have h1 : o.getD i 0 ∈ o := by
            rw [List.getD_eq_getElem?_getD, List.getElem?_eq_getElem (by omega)]
            exact List.getElem_mem _
          have ho' : o = cntM l k := ho.out
          have h2 := cntM_pos l k (o.getD i 0) (by rw [← ho']; exact h1)
          omega
        rw [← (show o = cntM l k from ho.out)] at hst
        have HST := Lib.hid hst
        clear hst ho hol
        obtain ⟨xk, xs, xt, xf, xa, xl, xA, xB, x1, x2, x3, x4⟩ := x
        dsimp only at a0 a1 a2 a3 a4 a5 a6 a7 a8 a9 a10 a11
        have hal := (Below.refl wr.heap.size wr).alloc (Nat.le_refl _) (.cells #[.int .i64 xk, .int .i64 xs, .int .i64 xt, .int .i64 xf, .int .i64 xa, .int .i64 xl, .int .i64 xA, .int .i64 xB, .int .i64 x1, .int .i64 x2, .int .i64 x3, .int .i64 x4] 30)
        have hbl1 := hbl.trans (hal.mono hz)
        have hown1 := own_below hown hal
        have hz1' : wr.heap.size ≤ _ := hal.size
        obtain ⟨n, hn, hkd, hcase⟩ : ∃ n : Nat, n < 18 ∧ kd ⟨xk, xs, xt, xf, xa, xl, xA, xB, x1, x2, x3, x4⟩ = n ∧ (xk = (n : Int) ∨ (n = 0 ∧ (xk < 0 ∨ 17 < xk))) := by
          by_cases h : 0 ≤ xk ∧ xk ≤ 17
          · exact ⟨xk.toNat, by omega, by unfold kd; rw [if_pos h], .inl (by omega)⟩
          · exact ⟨0, by omega, by unfold kd; rw [if_neg h], .inr ⟨rfl, by omega⟩⟩
        have hcell := own_cell hown1 hn
        have hfz := World.ownsRow.frozenAt hown1 n
        have hset := own_below (own_set hown n (o.getD n 0 + 1)) ((Below.refl _ _).alloc (Nat.le_refl _) (.cells #[.int .i64 xk, .int .i64 xs, .int .i64 xt, .int .i64 xf, .int .i64 xa, .int .i64 xl, .int .i64 xA, .int .i64 xB, .int .i64 x1, .int .i64 x2, .int .i64 x3, .int .i64 x4] 30))
        obtain ⟨hp1, hp2⟩ := hpos n hn
        have hst := HST.out
        rw [hkd] at hst
        unfold bump at hst
        have HST2 := Lib.hid hst
        have HW := Lib.hid hset
        clear hpos hst HST hkd hset hown hown1 hal
        generalize o.getD n 0 = c at *
        have hout : Below w.heap.size w ((wr.setCell ⟨w.heap.size, n, none⟩ (.int .i64 (c + 1))).alloc (.cells #[.int .i64 xk, .int .i64 xs, .int .i64 xt, .int .i64 xf, .int .i64 xa, .int .i64 xl, .int .i64 xA, .int .i64 xB, .int .i64 x1, .int .i64 x2, .int .i64 x3, .int .i64 x4] 30)) := (hbl.setCell (p := ⟨w.heap.size, n, none⟩) (Nat.le_refl _) _).alloc (by simp; omega) _
        rcases hcase with rfl | ⟨rfl, h | h⟩
        · have g1 : ¬ (n : Int) < 0 := by omega
          have g2 : ¬ (17 : Int) < (n : Int) := by omega
          go_wp2_with fail
          go_roundw
          case rel => exact ⟨k + 1, o.set n (c + 1), by omega, by go_num, HW.out, by rw [List.length_set]; exact HOL.out, hout, by simp; omega, HST2.out.symm⟩
          case measure => simp [intOf]; omega
        · go_wp2_with fail
          go_roundw
          case rel => exact ⟨k + 1, o.set 0 (c + 1), by omega, by go_num, HW.out, by rw [List.length_set]; exact HOL.out, hout, by simp; omega, HST2.out.symm⟩
          case measure => simp [intOf]; omega
        · have g1 : ¬ xk < 0 := by omega
          go_wp2_with fail
          go_roundw
          case rel => exact ⟨k + 1, o.set 0 (c + 1), by omega, by go_num, HW.out, by rw [List.length_set]; exact HOL.out, hout, by simp; omega, HST2.out.symm⟩
          case measure => simp [intOf]; omega
      · obtain rfl : k = l.length := by omega
        have ho' : o = cntM l l.length := ho.out
        have HOL := Lib.hid hol
        clear hol
        go_wp2_with fail
        go_ret2
        rw [← ho', HOL.out]
        refine ⟨_, _, rfl, ?_, hbl⟩
        have := Sl.of_own hown
        unfold SlI
        rw [HOL.out]
        exact this
end Go.Proofs.Ytpafnadfoedheaa
