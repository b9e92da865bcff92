/-
  What must be in any case.
-/
import Derived.Test.YthdleldnjoamlaaFlat
import Derived.Test.YthdleldnjoamlaaBack
import Derived.Test.YthdleldnjoamlaaPatch
import Derived.Test.YthdleldnjoamlaaSame
namespace Go.Proofs.Ythdleldnjoamlaa
open Go.RowKit

abbrev abS : ByteArray := { data := #[97, 98] }
def stB : StC := ⟨[], [], [[97, 98]], [], [], [], 0, 3⟩
theorem stB_e : StC.e stB = [0, 0, 1, 2, 97, 98, 0, 0, 0, 0, 3] := by decide +kernel
theorem flat0 (w : World) : Calls Try.prog 7 #[.agg #[.slice none 0 0, .slice none 0 0, .slice (some ⟨w.heap.size, 0, none⟩) 1 1, .slice none 0 0, .slice none 0 0, .slice none 0 0, .int .i64 0, .int .i64 3]] (w.alloc (.cells #[.string abS] 9)) fun r w' =>
    ∃ p c, r = .returned (.slice p 11 c) ∧ SlI w' p c [0, 0, 1, 2, 97, 98, 0, 0, 0, 0, 3] ∧ Below w.heap.size w w' := by
  have hb := (Below.refl w.heap.size w).alloc (Nat.le_refl _) (.cells #[.string abS] 9)
  have hrow : Sl (w.alloc (.cells #[.string abS] 9)) 1 (some ⟨w.heap.size, 0, none⟩) 1 1 [Value.string abS] :=
    ⟨new_row w #[.string abS] 9 (0, 0), rfl, Nat.le_refl _, by decide, fun h => by cases h⟩
  have h := Flat_any (W := w.alloc (.cells #[.string abS] 9)) ⟨Sv.none, Sv.none, ⟨some ⟨w.heap.size, 0, none⟩, 1, [abS]⟩, Sv.none, Sv.none, Sv.none, 0, 3⟩ ⟨Rd.zero _, Rd.zero _, ⟨hrow, fun _ _ => trivial⟩, Rd.zero _, Rd.zero _, Rd.zero _⟩ (by show (StC.e stB).length ≤ _; rw [stB_e]; decide)
  have e : St.c ⟨Sv.none, Sv.none, ⟨some ⟨w.heap.size, 0, none⟩, 1, [abS]⟩, Sv.none, Sv.none, Sv.none, 0, 3⟩ = stB := rfl
  rw [e, stB_e] at h
  exact h.mono fun r w' ⟨p, c, h1, h2, h3⟩ => ⟨p, c, h1, Sl.of_own h2, hb.trans (h3.mono hb.size)⟩
theorem back0 {w : World} {p : Option Addr} {c : Nat} (h : SlI w p c [0, 0, 1, 2, 97, 98, 0, 0, 0, 0, 3]) : Calls Try.prog 8 #[.slice p 11 c] w fun r w' =>
    ∃ (p1 p4 p5 p6 : Option Addr) (c1 c4 c5 c6 : Nat) (p2 : Option Addr) (c2 : Nat) (b o c3 : Nat), r = .returned (.tuple #[.agg #[.slice p1 0 c1, .slice p2 0 c2, .slice (some ⟨b, o, none⟩) 1 c3, .slice p4 0 c4, .slice p5 0 c5, .slice p6 0 c6, .int .i64 0, .int .i64 3], .int .i64 0]) ∧ b < w'.heap.size ∧ w'.cell? ⟨b, o, none⟩ = some (.string abS) ∧ Below w.heap.size w w' := by
  refine (Back_any h stB stB_e.symm (by decide)).mono ?_
  rintro r w' ⟨y, rfl, hy, hok, hb⟩
  obtain ⟨⟨p1, c1, l1⟩, ⟨p2, c2, l2⟩, ⟨p3, c3, l3⟩, ⟨p4, c4, l4⟩, ⟨p5, c5, l5⟩, ⟨p6, c6, l6⟩, asked, steps⟩ := y
  simp only [St.c, stB, StC.mk.injEq, List.map_eq_nil_iff] at hy
  obtain ⟨rfl, rfl, h3, rfl, rfl, rfl, rfl, rfl⟩ := hy
  obtain ⟨s, rfl, hs⟩ : ∃ s, l3 = [s] ∧ txC s = [97, 98] := by
    rcases l3 with _ | ⟨s, _ | ⟨t, l⟩⟩
    · cases h3
    · exact ⟨s, rfl, by simpa using h3⟩
    · simp at h3
  obtain rfl : s = abS := by
    obtain ⟨d⟩ := s
    congr 1
    exact Array.toList_inj.1 hs
  obtain ⟨b, o, hp, hb3, hc⟩ := hok.texts.at_ (fun _ => rfl) (by omega) (i := 0) (by show 0 < 1; omega) abS
  dsimp only at hp
  subst hp
  have hc0 := hc 0 _ rfl
  simp only [Nat.zero_mul, Nat.add_zero] at hc0
  exact ⟨p1, p4, p5, p6, c1, c4, c5, c6, p2, c2, b, o, c3, rfl, hb3, hc0, hb⟩
theorem delta0 {w : World} {p q : Option Addr} (hA : SlI w p 2 [1, 2]) (hB : SlI w q 4 [1, 3, 0, 4]) : Calls Try.prog 11 #[.slice p 2 2, .slice q 4 4] w fun r w' =>
    ∃ b o c, r = .returned (.slice (some ⟨b, o, none⟩) 2 c) ∧ b < w'.heap.size ∧ w'.cell? ⟨b, o, none⟩ = some (.int .i64 1) ∧ w'.cell? ⟨b, o + 1, none⟩ = some (.int .i64 3) ∧ w'.cell? ⟨b, o + 2, none⟩ = some (.int .i64 3) ∧ w'.cell? ⟨b, o + 3, none⟩ = some (.int .i64 4) ∧ Below w.heap.size w w' := by
  refine (Delta_any hA hB (by decide)).mono ?_
  rintro r w' ⟨⟨p1, c1, l1⟩, rfl, hl, hr, hb⟩
  have e : deltaL [1, 2] [1, 3, 0, 4] = [⟨1, 3⟩, ⟨3, 4⟩] := by decide +kernel
  rw [e] at hl
  dsimp only at hl
  subst hl
  obtain ⟨b, o, hp, hb3, hc⟩ := hr.at_ (fun _ => rfl) (by omega) (i := 0) (by show 0 < 2; omega) default
  obtain ⟨b', o', hp', -, hc'⟩ := hr.at_ (fun _ => rfl) (by omega) (i := 1) (by show 1 < 2; omega) default
  dsimp only at hp hp'
  rw [hp] at hp'
  simp only [Option.some.injEq, Addr.mk.injEq, and_true] at hp'
  obtain ⟨rfl, rfl⟩ := hp'
  subst hp
  have h0 := hc 0 _ rfl
  have h1 := hc 1 _ rfl
  have h2 := hc' 0 _ rfl
  have h3 := hc' 1 _ rfl
  simp only [Nat.zero_mul, Nat.add_zero, Nat.one_mul, Nat.add_assoc, Nat.reduceAdd] at h0 h1 h2 h3
  exact ⟨b, o, c1, rfl, hb3, h0, h1, h2, h3, hb⟩

set_option maxRecDepth 100000 in
set_option maxHeartbeats 2000000 in
theorem begun_any (w : World) : Calls Try.prog 6 #[] w fun e w' => e = .returned (.bool true) ∧ Below w.heap.size w w' := by
  go_enter Try.func6, Try.ntmps6
  go_wp2_with fail
  refine (flat0 w).mono ?_
  rintro _ w1 ⟨p1, c1, rfl, h1, hB⟩
  go_wp2_with fail
  refine (back0 h1).mono ?_
  rintro _ w2 ⟨q1, q4, q5, q6, d1, d4, d5, d6, q2, d2, b3, o3, d3, rfl, hb3, hc3, hb⟩
  replace hB := hB.trans (hb.mono hB.size)
  replace h1 := h1.below hb
  clear hb
  go_wp2_with fail
  have hS := ((Blk.mk2 w2 #[.slice q1 0 d1, .slice q2 0 d2, .slice (some ⟨b3, o3, none⟩) 1 d3, .slice q4 0 d4, .slice q5 0 d5, .slice q6 0 d6, .int .i64 0, .int .i64 3] 29).alloc (.cells #[.int .i64 1, .int .i64 2] 3)).alloc (.cells #[.int .i64 1, .int .i64 3, .int .i64 0, .int .i64 4] 3)
  have hL1 := (lit_sl (w2.alloc (.cells #[.slice q1 0 d1, .slice q2 0 d2, .slice (some ⟨b3, o3, none⟩) 1 d3, .slice q4 0 d4, .slice q5 0 d5, .slice q6 0 d6, .int .i64 0, .int .i64 3] 29)) [1, 2] (by decide) #[.int .i64 1, .int .i64 2] rfl (w2.heap.size + 1) (by simp) 2 rfl).below ((Below.refl _ _).alloc (Nat.le_refl _) (.cells #[.int .i64 1, .int .i64 3, .int .i64 0, .int .i64 4] 3))
  have hL2 := lit_sl ((w2.alloc (.cells #[.slice q1 0 d1, .slice q2 0 d2, .slice (some ⟨b3, o3, none⟩) 1 d3, .slice q4 0 d4, .slice q5 0 d5, .slice q6 0 d6, .int .i64 0, .int .i64 3] 29)).alloc (.cells #[.int .i64 1, .int .i64 2] 3)) [1, 3, 0, 4] (by decide) #[.int .i64 1, .int .i64 3, .int .i64 0, .int .i64 4] rfl (w2.heap.size + 1 + 1) (by simp) 4 rfl
  have hb := (((Below.refl w2.heap.size w2).alloc (Nat.le_refl _) (.cells #[.slice q1 0 d1, .slice q2 0 d2, .slice (some ⟨b3, o3, none⟩) 1 d3, .slice q4 0 d4, .slice q5 0 d5, .slice q6 0 d6, .int .i64 0, .int .i64 3] 29)).alloc (by simp) (.cells #[.int .i64 1, .int .i64 2] 3)).alloc (by simp; omega) (.cells #[.int .i64 1, .int .i64 3, .int .i64 0, .int .i64 4] 3)
  refine (delta0 hL1 hL2).mono ?_
  rintro _ w3 ⟨b, o, c, rfl, hb4, e0, e1, e2, e3, hb5⟩
  replace hb := hb.trans (hb5.mono hb.size)
  replace hB := hB.trans (hb.mono hB.size)
  replace h1 := h1.below hb
  have hS3 := hS.next hb5
  have hc4 := (hb.cell (p := ⟨b3, o3, none⟩) hb3).trans hc3
  have hb33 : b3 < w3.heap.size := Nat.lt_of_lt_of_le hb3 hb.size
  clear hL1 hL2 hb hb5 hS hc3 hb3
  generalize w2.heap.size = S at *
  go_wp2_with fail
  have hL := lit_sl w3 [0, 0, 1, 2, 97, 98, 0, 0, 0, 0, 3] (by decide) #[.int .i64 0, .int .i64 0, .int .i64 1, .int .i64 2, .int .i64 97, .int .i64 98, .int .i64 0, .int .i64 0, .int .i64 0, .int .i64 0, .int .i64 3] rfl _ rfl 11 rfl
  have hal := (Below.refl w3.heap.size w3).alloc (Nat.le_refl _) (.cells #[.int .i64 0, .int .i64 0, .int .i64 1, .int .i64 2, .int .i64 97, .int .i64 98, .int .i64 0, .int .i64 0, .int .i64 0, .int .i64 0, .int .i64 3] 3)
  refine (sameI_is (h1.below hal) hL (b := true) rfl).mono ?_
  rintro _ w4 ⟨rfl, hb⟩
  replace hb := hal.trans (hb.mono hal.size)
  have hS4 := hS3.next hb
  have s2 : w4.cell? ⟨S, 2, none⟩ = some (.slice (some ⟨b3, o3, none⟩) 1 d3) := hS4.cell 2
  have s7 : w4.cell? ⟨S, 7, none⟩ = some (.int .i64 3) := hS4.cell 7
  have t1 := (hb.cell (p := ⟨b3, o3, none⟩) hb33).trans hc4
  have u0 := (hb.cell (p := ⟨b, o, none⟩) hb4).trans e0
  have u1 := (hb.cell (p := ⟨b, o + 1, none⟩) hb4).trans e1
  have u2 := (hb.cell (p := ⟨b, o + 2, none⟩) hb4).trans e2
  have u3 := (hb.cell (p := ⟨b, o + 3, none⟩) hb4).trans e3
  replace hB := hB.trans (hb.mono hB.size)
  clear hb hL hal hS3 hS4 e0 e1 e2 e3 hc4 h1
  go_wp2_with fail
  go_ret
  exact ⟨rfl, hB⟩
end Go.Proofs.Ythdleldnjoamlaa
