/-
  The walk of RowsThree.
-/
import Derived.Test.YtpafnadfoedheaaBegun
import Derived.Test.YtpafnadfoedheaaSameE
namespace Go.Proofs.Ytpafnadfoedheaa
open Go.RowKit

theorem mergeM_ok {l m : List Ev} (h : (mergeM l m).2 = 0) : l.length + m.length ≤ 200 ∧ (mergeM l m).1 = ssort Ev.s (l ++ m) := by
  unfold mergeM at h ⊢
  split
  · next hb => rw [if_pos hb] at h; cases h
  · next hb =>
    rw [if_neg hb] at h
    split
    · exact ⟨by omega, rfl⟩
    · next hc => rw [if_neg hc] at h; cases h
theorem mergeM_small (l m : List Ev) : (mergeM l m).1.length ≤ 200 := by
  unfold mergeM
  split
  · simp
  · split
    · rw [ssort_length, List.length_append]; omega
    · simp
/-- Of three it is no matter which two come first. -/
theorem three_law {l m n : List Ev} (h1 : (mergeM l m).2 = 0) (h2 : (mergeM m n).2 = 0) (h3 : (mergeM (mergeM l m).1 n).2 = 0) (h4 : (mergeM l (mergeM m n).1).2 = 0) : (mergeM (mergeM l m).1 n).1 = (mergeM l (mergeM m n).1).1 := by
  rw [(mergeM_ok h3).2, (mergeM_ok h4).2, (mergeM_ok h1).2, (mergeM_ok h2).2, ssort_left, ssort_right, List.append_assoc]

set_option maxHeartbeats 8000000 in
set_option maxRecDepth 100000 in
theorem threeLaw_any (p1 : Option Addr) (c1 : Nat) (l : List Ev) (p2 : Option Addr) (c2 : Nat) (m : List Ev) (p3 : Option Addr) (c3 : Nat) (n : List Ev) (w : World) (h1 : Sl w 12 p1 l.length c1 (evs l)) (h2 : Sl w 12 p2 m.length c2 (evs m)) (h3 : Sl w 12 p3 n.length c3 (evs n))
    (b1 : l.length ≤ 1048576) (b2 : m.length ≤ 1048576) (b3 : n.length ≤ 1048576) :
    Calls Try.prog 4 #[.slice p1 l.length c1, .slice p2 m.length c2, .slice p3 n.length c3] w fun e w' => e = .returned (.bool true) ∧ Below w.heap.size w w' := by
  have hlaw := three_law (l := l) (m := m) (n := n)
  have s1 := mergeM_small l m
  have s2 := mergeM_small m n
  have C1 := fun W (hW : Below w.heap.size w W) => merge_any p1 c1 l p2 c2 m W (h1.below hW) (h2.below hW) (by omega)
  have C2 := fun W (hW : Below w.heap.size w W) => merge_any p2 c2 m p3 c3 n W (h2.below hW) (h3.below hW) (by omega)
  have C3 := fun W (hW : Below w.heap.size w W) p c (h : Sl W 12 p (mergeM l m).1.length c (evs (mergeM l m).1)) => merge_any p c (mergeM l m).1 p3 c3 n W h (h3.below hW) (by omega)
  have C4 := fun W (hW : Below w.heap.size w W) p c (h : Sl W 12 p (mergeM m n).1.length c (evs (mergeM m n).1)) => merge_any p1 c1 l p c (mergeM m n).1 W (h1.below hW) h (by omega)
  have D1 := Lib.hid C1; have D2 := Lib.hid C2; have D3 := Lib.hid C3; have D4 := Lib.hid C4; have HL := Lib.hid hlaw
  clear h1 h2 h3 C1 C2 C3 C4 hlaw s1 s2
  generalize mergeM (mergeM l m).1 n = rx at *
  generalize mergeM l (mergeM m n).1 = ry at *
  generalize mergeM l m = ra at *
  generalize mergeM m n = rb at *
  obtain ⟨la, ea⟩ := ra
  obtain ⟨lb, eb⟩ := rb
  obtain ⟨lx, ex⟩ := rx
  obtain ⟨ly, ey⟩ := ry
  dsimp only at D1 D2 D3 D4 HL
  go_enter Try.func4, Try.ntmps4
  go_wp2_with fail
  refine (begun_any w).mono ?_
  rintro _ w1 ⟨rfl, hb1⟩
  go_wp2_with fail
  refine (D1.out _ hb1).mono ?_
  rintro _ w2 ⟨pa, ca, rfl, hA, hb2⟩
  replace hb2 := hb1.trans (hb2.mono hb1.size)
  clear hb1
  go_wp2_with fail
  refine (D2.out _ hb2).mono ?_
  rintro _ w3 ⟨pb, cb, rfl, hB, hb3⟩
  replace hA := hA.below hb3
  replace hb3 := hb2.trans (hb3.mono hb2.size)
  clear hb2
  go_wp2_with fail
  refine (D3.out _ hb3 _ _ hA).mono ?_
  clear hA
  rintro _ w4 ⟨px, cx, rfl, hX, hb4⟩
  replace hB := hB.below hb4
  replace hb4 := hb3.trans (hb4.mono hb3.size)
  clear hb3
  go_wp2_with fail
  refine (D4.out _ hb4 _ _ hB).mono ?_
  clear hB
  rintro _ w5 ⟨py, cy, rfl, hY, hb5⟩
  replace hX := hX.below hb5
  replace hb5 := hb4.trans (hb5.mono hb4.size)
  clear hb4
  by_cases hall : ea = 0 ∧ eb = 0 ∧ ex = 0 ∧ ey = 0
  · obtain ⟨rfl, rfl, rfl, rfl⟩ := hall
    have he := HL.out rfl rfl rfl rfl
    subst he
    go_wp2_with fail
    refine (begun_any w5).mono ?_
    rintro _ w6 ⟨rfl, hb6⟩
    have C := sameEvents_any (hX.below hb6) (hY.below hb6)
    rw [show decide (lx = lx) = true from by simp] at C
    replace hb6 := hb5.trans (hb6.mono hb5.size)
    clear hX hY hb5
    go_wp2_with fail
    refine C.mono ?_
    rintro _ w7 ⟨rfl, hb7⟩
    go_wp2
    go_ret
    exact ⟨rfl, hb6.trans (hb7.mono hb6.size)⟩
  · have hfin : ∀ w6, Below w5.heap.size w5 w6 → Below w.heap.size w w6 := fun w6 h => hb5.trans (h.mono hb5.size)
    clear hX hY hb5
    by_cases h1 : ea = 0
    · by_cases h2 : eb = 0
      · by_cases h3 : ex = 0
        · have h4 : ¬ ey = 0 := fun h => hall ⟨h1, h2, h3, h⟩
          have d4 : (ey != 0) = true := by simpa using h4
          subst h1 h2 h3
          clear hall h4
          go_wp2_with fail
          refine (begun_any w5).mono ?_
          rintro _ w6 ⟨rfl, hb6⟩
          go_wp2
          go_ret
          exact ⟨rfl, hfin _ hb6⟩
        · have d3 : (ex != 0) = true := by simpa using h3
          subst h1 h2
          clear hall h3
          go_wp2_with fail
          refine (begun_any w5).mono ?_
          rintro _ w6 ⟨rfl, hb6⟩
          go_wp2
          go_ret
          exact ⟨rfl, hfin _ hb6⟩
      · have d2 : (eb != 0) = true := by simpa using h2
        subst h1
        clear hall h2
        go_wp2_with fail
        refine (begun_any w5).mono ?_
        rintro _ w6 ⟨rfl, hb6⟩
        go_wp2
        go_ret
        exact ⟨rfl, hfin _ hb6⟩
    · have d1 : (ea != 0) = true := by simpa using h1
      clear hall h1
      go_wp2_with fail
      refine (begun_any w5).mono ?_
      rintro _ w6 ⟨rfl, hb6⟩
      go_wp2
      go_ret
      exact ⟨rfl, hfin _ hb6⟩
end Go.Proofs.Ytpafnadfoedheaa
