/-
  rows.Merge: an error, or both lists' events, sorted, stable.
-/
import Derived.Test.YtpafnadfoedheaaSortS
import Derived.Test.YtpafnadfoedheaaConcat
namespace Go.Proofs.Ytpafnadfoedheaa
open Go.RowKit Go.Sort

def mergeM (l m : List Ev) : List Ev × Int := if 200 < l.length + m.length then ([], 2) else if srtB l && srtB m then (ssort Ev.s (l ++ m), 0) else ([], 3)

set_option maxRecDepth 100000 in
set_option maxHeartbeats 4000000 in
theorem merge_any (p1 : Option Addr) (c1 : Nat) (l : List Ev) (p2 : Option Addr) (c2 : Nat) (m : List Ev) (w : World) (h1 : Sl w 12 p1 l.length c1 (evs l)) (h2 : Sl w 12 p2 m.length c2 (evs m)) (hov : l.length + m.length < 4611686018427387904) :
    Calls Try.prog 7 #[.slice p1 l.length c1, .slice p2 m.length c2] w fun e w' => ∃ p c, e = .returned (.tuple #[.slice p (mergeM l m).1.length c, .int .i64 (mergeM l m).2]) ∧ Sl w' 12 p (mergeM l m).1.length c (evs (mergeM l m).1) ∧ Below w.heap.size w w' := by
  unfold mergeM
  have l1 := h1.big
  have l2 := h2.big
  have l3 := h1.le
  have l4 := h2.le
  by_cases hb : 200 < l.length + m.length
  · rw [if_pos hb]
    have hbz : (200 : Int) < (l.length : Int) + (m.length : Int) := by omega
    have hbd : decide ((200 : Int) < (l.length : Int) + (m.length : Int)) = true := decide_eq_true hbz
    clear hb
    go_enter Try.func7, Try.ntmps7
    go_wp2
    go_ret2
    exact ⟨none, 0, rfl, Sl.zero _ _, Below.refl _ _⟩
  · rw [if_neg hb]
    have hbz : ¬ (200 : Int) < (l.length : Int) + (m.length : Int) := by omega
    have hl1 : l.length ≤ 200 := by omega
    have hl2 : m.length ≤ 200 := by omega
    have C1 := isSorted_any p1 c1 l w h1 (by omega)
    have C2 := fun W (hW : Below w.heap.size w W) => isSorted_any p2 c2 m W (h2.below hW) (by omega)
    have H1 := Lib.hid h1
    have H2 := Lib.hid h2
    have D1 := Lib.hid C1
    have D2 := Lib.hid C2
    have hsum : l.length + m.length ≤ 200 := by omega
    clear h1 h2 C1 C2
    cases hs1 : srtB l with
    | false =>
      rw [hs1] at D1
      rw [Bool.false_and, if_neg (by simp)]
      clear D2
      go_enter Try.func7, Try.ntmps7
      go_wp2_with fail
      refine (D1.out).mono ?_
      rintro _ w1 ⟨rfl, hb1⟩
      go_wp2_with fail
      go_ret2
      exact ⟨none, 0, rfl, Sl.zero _ _, hb1⟩
    | true =>
      rw [hs1] at D1
      cases hs2 : srtB m with
      | false =>
        rw [hs2] at D2
        rw [Bool.and_false, if_neg (by simp)]
        go_enter Try.func7, Try.ntmps7
        go_wp2_with fail
        refine (D1.out).mono ?_
        rintro _ w1 ⟨rfl, hb1⟩
        go_wp2_with fail
        refine (D2.out _ hb1).mono ?_
        rintro _ w2 ⟨rfl, hb2⟩
        go_wp2_with fail
        go_ret2
        exact ⟨none, 0, rfl, Sl.zero _ _, hb1.trans (hb2.mono hb1.size)⟩
      | true =>
        rw [hs2] at D2
        rw [Bool.and_true, if_pos rfl]
        clear hs1 hs2
        go_enter Try.func7, Try.ntmps7
        go_wp2_with fail
        refine (D1.out).mono ?_
        rintro _ w1 ⟨rfl, hb1⟩
        go_wp2_with fail
        refine (D2.out _ hb1).mono ?_
        rintro _ w2 ⟨rfl, hb2⟩
        go_wp2_with fail
        replace hb2 := hb1.trans (hb2.mono hb1.size)
        have K1 : Sl w2 12 p1 l.length c1 (evs l) := H1.out.below hb2
        have K2 : Sl w2 12 p2 m.length c2 (evs m) := H2.out.below hb2
        have hAl := (Below.refl w2.heap.size w2).alloc (Nat.le_refl _) (.cells #[.slice p1 l.length c1, .slice p2 m.length c2] 22)
        have hPA : PartsAtE (w2.alloc (.cells #[.slice p1 l.length c1, .slice p2 m.length c2] 22)) w2.heap.size [⟨p1, l.length, c1, evs l⟩, ⟨p2, m.length, c2, evs m⟩] :=
          parts2E (by simp) (new_cell w2 _ _ _ 0) (new_cell w2 _ _ _ 1) ⟨K1.below hAl, evs_one⟩ ⟨K2.below hAl, evs_one⟩
        have hcc := concatE_any hPA (by simp) (by simp [flatNE]; omega)
        have e1 : flatNE [⟨p1, l.length, c1, evs l⟩, ⟨p2, m.length, c2, evs m⟩] = (l ++ m).length := by rw [List.length_append]; simp [flatNE]
        have e2 : flatE [⟨p1, l.length, c1, evs l⟩, ⟨p2, m.length, c2, evs m⟩] = evs (l ++ m) := by rw [evs_append]; simp [flatE]
        rw [e1, e2] at hcc
        have hz6 := hAl.size
        have hsum2 : (l ++ m).length ≤ 200 := by rw [List.length_append]; exact hsum
        obtain ⟨L, hL⟩ : ∃ L, L = l ++ m := ⟨_, rfl⟩
        rw [← hL] at hcc hsum2
        have HLL := Lib.hid hL
        refine hcc.mono ?_
        clear hcc hPA e1 e2 K1 K2 hL
        rintro _ w7 ⟨p7, c7, rfl, hown, hb7⟩
        replace hb7 := (hb2.trans (hAl.mono hb2.size)).trans (hb7.mono (Nat.le_trans hb2.size hz6))
        have hss := sortStable_any (own_mono hown (Nat.le_trans hb2.size hz6)) rfl hb7.size (by omega)
        have HSS := Lib.hid hss
        clear hss hown
        go_wp2_with fail
        refine HSS.out.mono ?_
        rintro _ w8 ⟨rfl, hS8, hb8⟩
        go_wp2_with fail
        go_ret2
        rw [← HLL.out]
        refine ⟨p7, c7, ?_, ?_, hb7.trans hb8⟩
        · dsimp only
          rw [ssort_length]
          rfl
        · rw [ssort_length]
          exact hS8
end Go.Proofs.Ytpafnadfoedheaa
