/-
  What must be in any case.
-/
import Derived.Test.YtjabhkpifpcccaaChop
import Derived.Test.YtjabhkpifpcccaaAlone
import Derived.Test.YtjabhkpifpcccaaSame
import Derived.Test.YtjabhkpifpcccaaHas
namespace Go.Proofs.Ytjabhkpifpcccaa
open Go.RowKit

theorem back_is {w : World} {p : Option Addr} {n cap : Nat} {ps : List Pt} (hR : Deps w p cap ps) (hn : n = ps.length) (i : Int) {m : List Int} {e : Int} (h : backM ps i = (m, e)) :
    Calls Try.prog 9 #[.slice p n cap, .int .i64 i] w fun x w' => ∃ p' c', x = .returned (.tuple #[.slice p' m.length c', .int .i64 e]) ∧ SlI w' p' c' m ∧ Below w.heap.size w w' := by
  subst hn
  have := Back_any hR i
  rw [h] at this
  exact this.mono fun x w' ⟨p', c', h1, h2, h3⟩ => ⟨p', c', h1, Sl.of_own h2, h3⟩
theorem on_is {w : World} {p : Option Addr} {n cap : Nat} {ps : List Pt} (hR : Deps w p cap ps) (hn : n = ps.length) (i : Int) {m : List Int} {e : Int} (h : onM ps i = (m, e)) :
    Calls Try.prog 11 #[.slice p n cap, .int .i64 i] w fun x w' => ∃ p' c', x = .returned (.tuple #[.slice p' m.length c', .int .i64 e]) ∧ SlI w' p' c' m ∧ Below w.heap.size w w' := by
  subst hn
  have := On_any hR i
  rw [h] at this
  exact this.mono fun x w' ⟨p', c', h1, h2, h3⟩ => ⟨p', c', h1, Sl.of_own h2, h3⟩
theorem chop_is {w : World} {p : Option Addr} {n cap : Nat} {ps : List Pt} (hR : Deps w p cap ps) (hn : n = ps.length) (i j : Int) {m : List Int} {e : Int} (h : chopM ps i j = (m, e)) :
    Calls Try.prog 12 #[.slice p n cap, .int .i64 i, .int .i64 j] w fun x w' => ∃ p' c', x = .returned (.tuple #[.slice p' m.length c', .int .i64 e]) ∧ SlI w' p' c' m ∧ Below w.heap.size w w' := by
  subst hn
  have := Chop_any hR i j
  rw [h] at this
  exact this.mono fun x w' ⟨p', c', h1, h2, h3⟩ => ⟨p', c', h1, Sl.of_own h2, h3⟩
theorem alone_is {w : World} {p : Option Addr} {n cap : Nat} {l : List Ln} (hR : Sl w 4 p n cap (lns l)) (hwf : ∀ x ∈ l, x.Wf) (i : Int) {m : List Ln} {e : Int} (h : aloneM l i = (m, e)) :
    Calls Try.prog 8 #[.slice p n cap, .int .i64 i] w fun x w' => ∃ p' c', x = .returned (.tuple #[.slice p' m.length c', .int .i64 e]) ∧ Sl w' 4 p' m.length c' (lns m) ∧ Below w.heap.size w w' := by
  obtain rfl := hR.lns_len
  have := alone_any hR hwf i
  rw [h] at this
  exact this.mono fun x w' ⟨p', c', h1, h2, h3⟩ => ⟨p', c', h1, Sl.of_own h2, h3⟩
theorem run_is {w : World} {p : Option Addr} {n cap : Nat} {l : List Ln} (hR : Sl w 4 p n cap (lns l)) (hwf : ∀ x ∈ l, x.Wf) (i : Int) {m e : Int} (h : runM l i = (m, e)) :
    Calls Try.prog 7 #[.slice p n cap, .int .i64 i] w fun x w' => x = .returned (.tuple #[.int .i64 m, .int .i64 e]) ∧ Below w.heap.size w w' := by
  obtain rfl := hR.lns_len
  have := run_any hR hwf i
  rw [h] at this
  exact this

set_option maxRecDepth 100000 in
set_option maxHeartbeats 2000000 in
theorem begun_any (w : World) : Calls Try.prog 6 #[] w fun e w' => e = .returned (.bool true) ∧ Below w.heap.size w w' := by
  go_enter Try.func6, Try.ntmps6
  go_wp2_with fail
  have s1 := lit_sl w [0] (by decide) #[.int .i64 0] rfl _ rfl 1 rfl
  have b1 := (Below.refl w.heap.size w).alloc (Nat.le_refl _) (.cells #[.int .i64 0] 3)
  have z1 : (w.alloc (.cells #[.int .i64 0] 3)).heap.size = w.heap.size + 1 := by simp
  generalize w.alloc (.cells #[.int .i64 0] 3) = a1 at *
  have s2 := lit_sl a1 [1] (by decide) #[.int .i64 1] rfl (w.heap.size + 1) z1.symm 1 rfl
  have b2 := (Below.refl a1.heap.size a1).alloc (Nat.le_refl _) (.cells #[.int .i64 1] 3)
  have z2 : (a1.alloc (.cells #[.int .i64 1] 3)).heap.size = w.heap.size + 1 + 1 := by simp [z1]
  generalize a1.alloc (.cells #[.int .i64 1] 3) = a2 at *
  have s3 := lit_sl a2 [2, 0] (by decide) #[.int .i64 2, .int .i64 0] rfl (w.heap.size + 1 + 1) z2.symm 2 rfl
  have b3 := (Below.refl a2.heap.size a2).alloc (Nat.le_refl _) (.cells #[.int .i64 2, .int .i64 0] 3)
  have z3 : (a2.alloc (.cells #[.int .i64 2, .int .i64 0] 3)).heap.size = w.heap.size + 1 + 1 + 1 := by simp [z2]
  generalize a2.alloc (.cells #[.int .i64 2, .int .i64 0] 3) = a3 at *
  have s4 := new_row a3 #[.slice none 0 0, .slice none 0 0, .slice (some ⟨w.heap.size, 0, none⟩) 1 1, .slice (some ⟨w.heap.size + 1, 0, none⟩) 1 1, .slice (some ⟨w.heap.size + 1 + 1, 0, none⟩) 2 2] 35 (0, 0)
  rw [z3] at s4
  have b4 := (Below.refl a3.heap.size a3).alloc (Nat.le_refl _) (.cells #[.slice none 0 0, .slice none 0 0, .slice (some ⟨w.heap.size, 0, none⟩) 1 1, .slice (some ⟨w.heap.size + 1, 0, none⟩) 1 1, .slice (some ⟨w.heap.size + 1 + 1, 0, none⟩) 2 2] 35)
  generalize a3.alloc (.cells #[.slice none 0 0, .slice none 0 0, .slice (some ⟨w.heap.size, 0, none⟩) 1 1, .slice (some ⟨w.heap.size + 1, 0, none⟩) 1 1, .slice (some ⟨w.heap.size + 1 + 1, 0, none⟩) 2 2] 35) = a4 at *
  have t1 := ((s1.below b2).below b3).below b4
  have t2 := (s2.below b3).below b4
  have t3 := s3.below b4
  have hB := (((b1.trans (b2.mono b1.size)).trans (b3.mono (Nat.le_trans b1.size b2.size))).trans (b4.mono (Nat.le_trans b1.size (Nat.le_trans b2.size b3.size))))
  have hD : Deps a4 (some ⟨w.heap.size + 1 + 1 + 1, 0, none⟩) 5 [⟨none, 0, []⟩, ⟨none, 0, []⟩, ⟨some ⟨w.heap.size, 0, none⟩, 1, [0]⟩, ⟨some ⟨w.heap.size + 1, 0, none⟩, 1, [1]⟩, ⟨some ⟨w.heap.size + 1 + 1, 0, none⟩, 2, [2, 0]⟩] := by
    refine ⟨⟨s4, rfl, Nat.le_refl _, by decide, fun h => by cases h⟩, fun i hi => ?_⟩
    match i, hi with
    | 0, _ => exact Sl.zero _ _
    | 1, _ => exact Sl.zero _ _
    | 2, _ => exact t1
    | 3, _ => exact t2
    | 4, _ => exact t3
    | _ + 5, h => exact absurd h (by simp)
  clear s1 s2 s3 s4 b1 b2 b3 b4 t1 t2 t3 z1 z2 z3
  refine (back_is hD rfl 4 (m := [0, 2, 4]) (e := 0) rfl).mono ?_
  rintro _ w1 ⟨p1, c1, rfl, h1, hb⟩
  replace hD := hD.below hb
  replace hB := hB.trans (hb.mono hB.size)
  clear hb
  go_wp2_with fail
  refine (on_is hD rfl 0 (m := [0, 2, 4]) (e := 0) rfl).mono ?_
  rintro _ w2 ⟨p2, c2, rfl, h2, hb⟩
  replace hD := hD.below hb
  replace h1 := h1.below hb
  replace hB := hB.trans (hb.mono hB.size)
  clear hb
  go_wp2_with fail
  refine (chop_is hD rfl 2 4 (m := [2, 4]) (e := 0) rfl).mono ?_
  rintro _ w3 ⟨p3, c3, rfl, h3, hb⟩
  replace h1 := h1.below hb
  replace h2 := h2.below hb
  replace hB := hB.trans (hb.mono hB.size)
  clear hb hD
  go_wp2_with fail
  have hL : Sl (w3.alloc (.cells #[.int .i64 1, .int .i64 3, .int .i64 5, .int .i64 0, .int .i64 2, .int .i64 3, .int .i64 9, .int .i64 0, .int .i64 1, .int .i64 0, .int .i64 1, .int .i64 1, .int .i64 3, .int .i64 2, .int .i64 1, .int .i64 7] 41)) 4 (some ⟨w3.heap.size, 0, none⟩) 4 4 (lns [⟨1, 3, 5, 0⟩, ⟨2, 3, 9, 0⟩, ⟨1, 0, 1, 1⟩, ⟨3, 2, 1, 7⟩]) :=
    ⟨new_row w3 #[.int .i64 1, .int .i64 3, .int .i64 5, .int .i64 0, .int .i64 2, .int .i64 3, .int .i64 9, .int .i64 0, .int .i64 1, .int .i64 0, .int .i64 1, .int .i64 1, .int .i64 3, .int .i64 2, .int .i64 1, .int .i64 7] 41 (0, 0), rfl, Nat.le_refl _, by decide, fun h => by cases h⟩
  have hal := (Below.refl w3.heap.size w3).alloc (Nat.le_refl _) (.cells #[.int .i64 1, .int .i64 3, .int .i64 5, .int .i64 0, .int .i64 2, .int .i64 3, .int .i64 9, .int .i64 0, .int .i64 1, .int .i64 0, .int .i64 1, .int .i64 1, .int .i64 3, .int .i64 2, .int .i64 1, .int .i64 7] 41)
  refine (alone_is hL (fun x hx => by simp only [List.mem_cons, List.not_mem_nil, or_false] at hx; rcases hx with rfl | rfl | rfl | rfl <;> exact ⟨by decide, by decide, by decide, by decide⟩) 2 (m := [⟨1, 3, 5, 0⟩, ⟨1, 0, 1, 1⟩]) (e := 0) rfl).mono ?_
  rintro _ w4 ⟨p4, c4, rfl, h4, hb⟩
  replace hb := hal.trans (hb.mono hal.size)
  replace h1 := h1.below hb
  replace h2 := h2.below hb
  replace h3 := h3.below hb
  replace hB := hB.trans (hb.mono hB.size)
  clear hb hL hal
  simp only [List.length_cons, List.length_nil, Nat.zero_add, Nat.reduceAdd] at h1 h2 h3 h4 ⊢
  go_wp2_with fail
  refine (run_is h4 (fun x hx => by simp only [List.mem_cons, List.not_mem_nil, or_false] at hx; rcases hx with rfl | rfl <;> exact ⟨by decide, by decide, by decide, by decide⟩) 1 (m := 10) (e := 0) (by kernel_rfl)).mono ?_
  rintro _ w5 ⟨rfl, hb⟩
  replace h1 := h1.below hb
  replace h2 := h2.below hb
  replace h3 := h3.below hb
  replace hB := hB.trans (hb.mono hB.size)
  clear hb h4
  go_wp2_with fail
  have hL := lit_sl w5 [0, 2, 4] (by decide) #[.int .i64 0, .int .i64 2, .int .i64 4] rfl _ rfl 3 rfl
  have hal := (Below.refl w5.heap.size w5).alloc (Nat.le_refl _) (.cells #[.int .i64 0, .int .i64 2, .int .i64 4] 3)
  refine (sameI_is (h1.below hal) hL (b := true) rfl).mono ?_
  rintro _ w6 ⟨rfl, hb⟩
  replace hb := hal.trans (hb.mono hal.size)
  replace h2 := h2.below hb
  replace h3 := h3.below hb
  replace hB := hB.trans (hb.mono hB.size)
  clear hb hL hal h1
  go_wp2_with fail
  have hL := lit_sl w6 [0, 2, 4] (by decide) #[.int .i64 0, .int .i64 2, .int .i64 4] rfl _ rfl 3 rfl
  have hal := (Below.refl w6.heap.size w6).alloc (Nat.le_refl _) (.cells #[.int .i64 0, .int .i64 2, .int .i64 4] 3)
  refine (sameI_is (h2.below hal) hL (b := true) rfl).mono ?_
  rintro _ w7 ⟨rfl, hb⟩
  replace hb := hal.trans (hb.mono hal.size)
  replace h3 := h3.below hb
  replace hB := hB.trans (hb.mono hB.size)
  clear hb hL hal h2
  go_wp2_with fail
  have hL := lit_sl w7 [2, 4] (by decide) #[.int .i64 2, .int .i64 4] rfl _ rfl 2 rfl
  have hal := (Below.refl w7.heap.size w7).alloc (Nat.le_refl _) (.cells #[.int .i64 2, .int .i64 4] 3)
  refine (sameI_is (h3.below hal) hL (b := true) rfl).mono ?_
  rintro _ w8 ⟨rfl, hb⟩
  replace hb := hal.trans (hb.mono hal.size)
  replace hB := hB.trans (hb.mono hB.size)
  clear hb hL hal h3
  go_wp2_with fail
  go_ret
  exact ⟨rfl, hB⟩
end Go.Proofs.Ytjabhkpifpcccaa
