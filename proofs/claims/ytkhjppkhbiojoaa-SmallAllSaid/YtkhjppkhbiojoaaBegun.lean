/-
  The walks of the package small, 7: what must be in any case.
-/
import Derived.Test.YtkhjppkhbiojoaaLaws
import Derived.Test.YtkhjppkhbiojoaaMix
import Derived.Test.YtkhjppkhbiojoaaFast
namespace Go.Proofs.Ytkhjppkhbiojoaa
open Go.RowKit Go.Sort

theorem lit_sl (w : World) (l : List Int) (hl : l.length ≤ 1000) (cs : Array Value) (hcs : cs.toList = ints .i64 l) (B : Nat) (hB : B = w.heap.size) (n : Nat) (hn : n = l.length) : SlI (w.alloc (.cells cs 3)) (some ⟨B, 0, none⟩) n l := by
  subst hB hn
  refine ⟨?_, by simp, Nat.le_refl _, by omega, fun h => by cases h⟩
  have := new_row w cs 3 (0, 0)
  rwa [hcs] at this

theorem min_is {w : World} {f : FuncId} {capt : Array Value} {q : List Int → Bool} (hH : Holds w f capt q) {p : Option Addr} {cap : Nat} {l : List Int} (hR : SlI w p cap l) {m : List Int} {n : Nat} {e : Int} (hx : minM q l = (m, n, e)) :
    Calls Try.prog 8 #[.slice p l.length cap, .func (.func f) #[] capt] w fun r w' => ∃ p' c', r = .returned (.tuple #[.slice p' m.length c', .int .i64 n, .int .i64 e]) ∧ SlI w' p' c' m ∧ Below w.heap.size w w' := by
  have := min_any hH hR
  rw [hx] at this
  exact this

theorem without_is {w : World} {p : Option Addr} {cap : Nat} {l : List Int} (hR : SlI w p cap l) {a b : Int} {m : List Int} {e : Int} (hx : withoutE l a b = (m, e)) :
    Calls Try.prog 9 #[.slice p l.length cap, .int .i64 a, .int .i64 b] w fun r w' => ∃ p' c', r = .returned (.tuple #[.slice p' m.length c', .int .i64 e]) ∧ SlI w' p' c' m ∧ Below w.heap.size w w' := by
  have := Without_any hR a b
  rw [hx] at this
  exact this.mono fun r w' ⟨p', c', h1, h2, h3⟩ => ⟨p', c', h1, Sl.of_own h2, h3⟩

theorem same_is {w : World} {p q : Option Addr} {cap cap2 : Nat} {l m : List Int} (hR : SlI w p cap l) (hS : SlI w q cap2 m) (h : l = m) :
    Calls Try.prog 11 #[.slice p l.length cap, .slice q m.length cap2] w fun e w' => e = .returned (.bool true) ∧ Below w.heap.size w w' := by
  have := sameInts_any hR hS
  rwa [decide_eq_true h] at this

set_option maxHeartbeats 1000000 in
theorem begun_any (w : World) : Calls Try.prog 6 #[] w fun e w' => e = .returned (.bool true) ∧ Below w.heap.size w w' := by
  go_enter Try.func6, Try.ntmps6
  go_wp2_with fail
  have hL := lit_sl w [5, 1, 8, 3, 9] (by decide) #[.int .i64 5, .int .i64 1, .int .i64 8, .int .i64 3, .int .i64 9] rfl _ rfl 5 rfl
  have hB := (Below.refl w.heap.size w).alloc (Nat.le_refl _) (.cells #[.int .i64 5, .int .i64 1, .int .i64 8, .int .i64 3, .int .i64 9] 3)
  refine (min_is (has19_holds _) hL (m := [1, 9]) (n := 10) (e := 0) (by decide)).mono ?_
  rintro e w1 ⟨p1, c1, rfl, h1, hb⟩
  replace hB := hB.trans (hb.mono hB.size)
  clear hb hL
  go_wp2_with fail
  have hL := lit_sl w1 [1, 2, 3] (by decide) #[.int .i64 1, .int .i64 2, .int .i64 3] rfl _ rfl 3 rfl
  have ha := (Below.refl w1.heap.size w1).alloc (Nat.le_refl _) (.cells #[.int .i64 1, .int .i64 2, .int .i64 3] 3)
  refine (without_is hL (m := [1, 3]) (e := 0) (by decide)).mono ?_
  rintro e w2 ⟨p2, c2, rfl, h2, hb⟩
  replace hb := ha.trans (hb.mono ha.size)
  replace h1 := h1.below hb
  replace hB := hB.trans (hb.mono hB.size)
  clear hb hL ha
  go_wp2_with fail
  refine (min_is (never_holds _) (Sl.zero w2 1) (l := []) (m := []) (n := 0) (e := 8) (by decide)).mono ?_
  rintro e w3 ⟨p3, c3, rfl, h3, hb⟩
  replace h1 := h1.below hb
  replace h2 := h2.below hb
  replace hB := hB.trans (hb.mono hB.size)
  clear hb h3
  go_wp2_with fail
  have hL := lit_sl w3 [1, 9] (by decide) #[.int .i64 1, .int .i64 9] rfl _ rfl 2 rfl
  have ha := (Below.refl w3.heap.size w3).alloc (Nat.le_refl _) (.cells #[.int .i64 1, .int .i64 9] 3)
  refine (same_is (h1.below ha) hL rfl).mono ?_
  rintro e w4 ⟨rfl, hb⟩
  replace hb := ha.trans (hb.mono ha.size)
  replace h2 := h2.below hb
  replace hB := hB.trans (hb.mono hB.size)
  clear hb hL ha h1
  go_wp2_with fail
  have hL := lit_sl w4 [1, 3] (by decide) #[.int .i64 1, .int .i64 3] rfl _ rfl 2 rfl
  have ha := (Below.refl w4.heap.size w4).alloc (Nat.le_refl _) (.cells #[.int .i64 1, .int .i64 3] 3)
  refine (same_is (h2.below ha) hL rfl).mono ?_
  rintro e w5 ⟨rfl, hb⟩
  replace hb := ha.trans (hb.mono ha.size)
  replace hB := hB.trans (hb.mono hB.size)
  clear hb hL ha h2
  go_wp2_with fail
  go_ret
  exact ⟨rfl, hB⟩

end Go.Proofs.Ytkhjppkhbiojoaa
