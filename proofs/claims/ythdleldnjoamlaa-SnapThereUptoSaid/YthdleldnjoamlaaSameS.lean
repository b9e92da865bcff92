/-
  Are two states one? The walk.
-/
import Derived.Test.YthdleldnjoamlaaSameF
import Derived.Test.YthdleldnjoamlaaSeq
namespace Go.Proofs.Ythdleldnjoamlaa
open Go.RowKit Go.Sort

set_option maxRecDepth 100000 in
set_option maxHeartbeats 16000000 in
theorem sameState_any {W : World} {x y : St} (hS : St.ok W x) (hT : St.ok W y) :
    Calls Try.prog 10 #[x.val, y.val] W fun r W' => r = .returned (.bool (decide (x.c = y.c))) ∧ Below W.heap.size W W' := by
  obtain ⟨⟨p1, c1, l1⟩, ⟨p2, c2, l2⟩, ⟨p3, c3, l3⟩, ⟨p4, c4, l4⟩, ⟨p5, c5, l5⟩, ⟨p6, c6, l6⟩, asked, steps⟩ := x
  obtain ⟨⟨q1, d1, m1⟩, ⟨q2, d2, m2⟩, ⟨q3, d3, m3⟩, ⟨q4, d4, m4⟩, ⟨q5, d5, m5⟩, ⟨q6, d6, m6⟩, asked', steps'⟩ := y
  obtain ⟨s1, s2, s3, s4, s5, s6⟩ := hS
  obtain ⟨t1, t2, t3, t4, t5, t6⟩ := hT
  dsimp only at s1 s2 s3 s4 s5 s6 t1 t2 t3 t4 t5 t6
  have hm1 : l1.length ≤ 9223372036854775807 := Nat.le_trans s1.row.le s1.row.big
  have hn1 : m1.length ≤ 9223372036854775807 := Nat.le_trans t1.row.le t1.row.big
  have hm2 : l2.length ≤ 9223372036854775807 := Nat.le_trans s2.row.le s2.row.big
  have hn2 : m2.length ≤ 9223372036854775807 := Nat.le_trans t2.row.le t2.row.big
  have hm3 : l3.length ≤ 9223372036854775807 := Nat.le_trans s3.row.le s3.row.big
  have hn3 : m3.length ≤ 9223372036854775807 := Nat.le_trans t3.row.le t3.row.big
  have hm4 : l4.length ≤ 9223372036854775807 := Nat.le_trans s4.row.le s4.row.big
  have hn4 : m4.length ≤ 9223372036854775807 := Nat.le_trans t4.row.le t4.row.big
  have hm5 : l5.length ≤ 9223372036854775807 := Nat.le_trans s5.row.le s5.row.big
  have hn5 : m5.length ≤ 9223372036854775807 := Nat.le_trans t5.row.le t5.row.big
  have hm6 : l6.length ≤ 9223372036854775807 := Nat.le_trans s6.row.le s6.row.big
  have hn6 : m6.length ≤ 9223372036854775807 := Nat.le_trans t6.row.le t6.row.big
  have hb0 := ((Below.refl W.heap.size W).alloc (Nat.le_refl _) (.cells #[.slice p1 l1.length c1, .slice p2 l2.length c2, .slice p3 l3.length c3, .slice p4 l4.length c4, .slice p5 l5.length c5, .slice p6 l6.length c6, .int .i64 asked, .int .i64 steps] 29)).alloc (by simp) (.cells #[.slice q1 m1.length d1, .slice q2 m2.length d2, .slice q3 m3.length d3, .slice q4 m4.length d4, .slice q5 m5.length d5, .slice q6 m6.length d6, .int .i64 asked', .int .i64 steps'] 29)
  have hA0 := (Blk.mk2 W #[.slice p1 l1.length c1, .slice p2 l2.length c2, .slice p3 l3.length c3, .slice p4 l4.length c4, .slice p5 l5.length c5, .slice p6 l6.length c6, .int .i64 asked, .int .i64 steps] 29).alloc (.cells #[.slice q1 m1.length d1, .slice q2 m2.length d2, .slice q3 m3.length d3, .slice q4 m4.length d4, .slice q5 m5.length d5, .slice q6 m6.length d6, .int .i64 asked', .int .i64 steps'] 29)
  have hB0 : Blk ((W.alloc (.cells #[.slice p1 l1.length c1, .slice p2 l2.length c2, .slice p3 l3.length c3, .slice p4 l4.length c4, .slice p5 l5.length c5, .slice p6 l6.length c6, .int .i64 asked, .int .i64 steps] 29)).alloc (.cells #[.slice q1 m1.length d1, .slice q2 m2.length d2, .slice q3 m3.length d3, .slice q4 m4.length d4, .slice q5 m5.length d5, .slice q6 m6.length d6, .int .i64 asked', .int .i64 steps'] 29)) (W.heap.size + 1) #[.slice q1 m1.length d1, .slice q2 m2.length d2, .slice q3 m3.length d3, .slice q4 m4.length d4, .slice q5 m5.length d5, .slice q6 m6.length d6, .int .i64 asked', .int .i64 steps'] 29 := Blk.mk_ _ _ _ (by simp)
  have hne : (St.c ⟨⟨p1, c1, l1⟩, ⟨p2, c2, l2⟩, ⟨p3, c3, l3⟩, ⟨p4, c4, l4⟩, ⟨p5, c5, l5⟩, ⟨p6, c6, l6⟩, asked, steps⟩ ≠ St.c ⟨⟨q1, d1, m1⟩, ⟨q2, d2, m2⟩, ⟨q3, d3, m3⟩, ⟨q4, d4, m4⟩, ⟨q5, d5, m5⟩, ⟨q6, d6, m6⟩, asked', steps'⟩) → decide (St.c ⟨⟨p1, c1, l1⟩, ⟨p2, c2, l2⟩, ⟨p3, c3, l3⟩, ⟨p4, c4, l4⟩, ⟨p5, c5, l5⟩, ⟨p6, c6, l6⟩, asked, steps⟩ = St.c ⟨⟨q1, d1, m1⟩, ⟨q2, d2, m2⟩, ⟨q3, d3, m3⟩, ⟨q4, d4, m4⟩, ⟨q5, d5, m5⟩, ⟨q6, d6, m6⟩, asked', steps'⟩) = false := fun h => decide_eq_false h
  have HNE := Lib.hid hne; clear hne
  generalize hbn : W.heap.size = S at *
  rcases (Classical.em (l1.length = m1.length)).symm with g1 | g1
  · have k1 : ((l1.length : Int) != (m1.length : Int)) = true := by simp; omega
    have hd := HNE.out (fun e => by have e2 := congrArg (fun z => (StC.cells z).length) e; simp [St.c] at e2; exact g1 e2)
    rw [hd]
    go_enter Try.func10, Try.ntmps10
    refine wp_seq_k fun K hK => ?_
    have HK := Lib.hid hK; clear hK
    go_wp2_with fail
    refine HK.out _ _ ?_
    clear HK K
    generalize ((W.alloc (.cells #[.slice p1 l1.length c1, .slice p2 l2.length c2, .slice p3 l3.length c3, .slice p4 l4.length c4, .slice p5 l5.length c5, .slice p6 l6.length c6, .int .i64 asked, .int .i64 steps] 29)).alloc (.cells #[.slice q1 m1.length d1, .slice q2 m2.length d2, .slice q3 m3.length d3, .slice q4 m4.length d4, .slice q5 m5.length d5, .slice q6 m6.length d6, .int .i64 asked', .int .i64 steps'] 29)) = w2 at *
    have r0 := cell_regrown (show w2.cell? ⟨S, 0, none⟩ = some (.slice p1 l1.length c1) from hA0.cell 0)
    have r1 := cell_regrown (show w2.cell? ⟨S, 1, none⟩ = some (.slice p2 l2.length c2) from hA0.cell 1)
    have r2 := cell_regrown (show w2.cell? ⟨S, 2, none⟩ = some (.slice p3 l3.length c3) from hA0.cell 2)
    have r3 := cell_regrown (show w2.cell? ⟨S, 3, none⟩ = some (.slice p4 l4.length c4) from hA0.cell 3)
    have r4 := cell_regrown (show w2.cell? ⟨S, 4, none⟩ = some (.slice p5 l5.length c5) from hA0.cell 4)
    have r5 := cell_regrown (show w2.cell? ⟨S, 5, none⟩ = some (.slice p6 l6.length c6) from hA0.cell 5)
    have r6 := cell_regrown (show w2.cell? ⟨S, 6, none⟩ = some (.int .i64 asked) from hA0.cell 6)
    have r7 := cell_regrown (show w2.cell? ⟨S, 7, none⟩ = some (.int .i64 steps) from hA0.cell 7)
    have e0 := cell_regrown (show w2.cell? ⟨S + 1, 0, none⟩ = some (.slice q1 m1.length d1) from hB0.cell 0)
    have e1 := cell_regrown (show w2.cell? ⟨S + 1, 1, none⟩ = some (.slice q2 m2.length d2) from hB0.cell 1)
    have e2 := cell_regrown (show w2.cell? ⟨S + 1, 2, none⟩ = some (.slice q3 m3.length d3) from hB0.cell 2)
    have e3 := cell_regrown (show w2.cell? ⟨S + 1, 3, none⟩ = some (.slice q4 m4.length d4) from hB0.cell 3)
    have e4 := cell_regrown (show w2.cell? ⟨S + 1, 4, none⟩ = some (.slice q5 m5.length d5) from hB0.cell 4)
    have e5 := cell_regrown (show w2.cell? ⟨S + 1, 5, none⟩ = some (.slice q6 m6.length d6) from hB0.cell 5)
    have e6 := cell_regrown (show w2.cell? ⟨S + 1, 6, none⟩ = some (.int .i64 asked') from hB0.cell 6)
    have e7 := cell_regrown (show w2.cell? ⟨S + 1, 7, none⟩ = some (.int .i64 steps') from hB0.cell 7)
    refine wp_seq_k fun K hK => ?_
    refine wp_seq_k fun K1 hK1 => ?_
    have HK := Lib.hid hK; have HK1 := Lib.hid hK1; clear hK hK1
    refine seq_below (by dsimp only [List.append]) ?_
    repeat (go_big_quiet_step (fail))
    refine wpQuiet_nil ?_
    intro w3 hb
    refine HK1.out _ _ ?_
    clear HK1 K1 r0 e0 r1 e1 r2 e2 r3 e3 r4 e4 r5 e5 r6 e6 r7 e7
    go_wp2_with fail
    go_ret
    exact ⟨rfl, hb0.trans (hb.mono (hbn ▸ hb0.size))⟩
  · have k1 : ((l1.length : Int) != (m1.length : Int)) = false := by simp; omega
    rcases (Classical.em (l2.length = m2.length)).symm with g2 | g2
    · have k2 : ((l2.length : Int) != (m2.length : Int)) = true := by simp; omega
      have hd := HNE.out (fun e => by have e2 := congrArg (fun z => (StC.shapes z).length) e; simp [St.c] at e2; exact g2 e2)
      rw [hd]
      go_enter Try.func10, Try.ntmps10
      refine wp_seq_k fun K hK => ?_
      have HK := Lib.hid hK; clear hK
      go_wp2_with fail
      refine HK.out _ _ ?_
      clear HK K
      generalize ((W.alloc (.cells #[.slice p1 l1.length c1, .slice p2 l2.length c2, .slice p3 l3.length c3, .slice p4 l4.length c4, .slice p5 l5.length c5, .slice p6 l6.length c6, .int .i64 asked, .int .i64 steps] 29)).alloc (.cells #[.slice q1 m1.length d1, .slice q2 m2.length d2, .slice q3 m3.length d3, .slice q4 m4.length d4, .slice q5 m5.length d5, .slice q6 m6.length d6, .int .i64 asked', .int .i64 steps'] 29)) = w2 at *
      have r0 := cell_regrown (show w2.cell? ⟨S, 0, none⟩ = some (.slice p1 l1.length c1) from hA0.cell 0)
      have r1 := cell_regrown (show w2.cell? ⟨S, 1, none⟩ = some (.slice p2 l2.length c2) from hA0.cell 1)
      have r2 := cell_regrown (show w2.cell? ⟨S, 2, none⟩ = some (.slice p3 l3.length c3) from hA0.cell 2)
      have r3 := cell_regrown (show w2.cell? ⟨S, 3, none⟩ = some (.slice p4 l4.length c4) from hA0.cell 3)
      have r4 := cell_regrown (show w2.cell? ⟨S, 4, none⟩ = some (.slice p5 l5.length c5) from hA0.cell 4)
      have r5 := cell_regrown (show w2.cell? ⟨S, 5, none⟩ = some (.slice p6 l6.length c6) from hA0.cell 5)
      have r6 := cell_regrown (show w2.cell? ⟨S, 6, none⟩ = some (.int .i64 asked) from hA0.cell 6)
      have r7 := cell_regrown (show w2.cell? ⟨S, 7, none⟩ = some (.int .i64 steps) from hA0.cell 7)
      have e0 := cell_regrown (show w2.cell? ⟨S + 1, 0, none⟩ = some (.slice q1 m1.length d1) from hB0.cell 0)
      have e1 := cell_regrown (show w2.cell? ⟨S + 1, 1, none⟩ = some (.slice q2 m2.length d2) from hB0.cell 1)
      have e2 := cell_regrown (show w2.cell? ⟨S + 1, 2, none⟩ = some (.slice q3 m3.length d3) from hB0.cell 2)
      have e3 := cell_regrown (show w2.cell? ⟨S + 1, 3, none⟩ = some (.slice q4 m4.length d4) from hB0.cell 3)
      have e4 := cell_regrown (show w2.cell? ⟨S + 1, 4, none⟩ = some (.slice q5 m5.length d5) from hB0.cell 4)
      have e5 := cell_regrown (show w2.cell? ⟨S + 1, 5, none⟩ = some (.slice q6 m6.length d6) from hB0.cell 5)
      have e6 := cell_regrown (show w2.cell? ⟨S + 1, 6, none⟩ = some (.int .i64 asked') from hB0.cell 6)
      have e7 := cell_regrown (show w2.cell? ⟨S + 1, 7, none⟩ = some (.int .i64 steps') from hB0.cell 7)
      refine wp_seq_k fun K hK => ?_
      refine wp_seq_k fun K1 hK1 => ?_
      have HK := Lib.hid hK; have HK1 := Lib.hid hK1; clear hK hK1
      refine seq_below (by dsimp only [List.append]) ?_
      repeat (go_big_quiet_step (fail))
      refine wpQuiet_nil ?_
      intro w3 hb
      refine HK1.out _ _ ?_
      clear HK1 K1 r0 e0 r1 e1 r2 e2 r3 e3 r4 e4 r5 e5 r6 e6 r7 e7
      go_wp2_with fail
      go_ret
      exact ⟨rfl, hb0.trans (hb.mono (hbn ▸ hb0.size))⟩
    · have k2 : ((l2.length : Int) != (m2.length : Int)) = false := by simp; omega
      rcases (Classical.em (l3.length = m3.length)).symm with g3 | g3
      · have k3 : ((l3.length : Int) != (m3.length : Int)) = true := by simp; omega
        have hd := HNE.out (fun e => by have e2 := congrArg (fun z => (StC.texts z).length) e; simp [St.c] at e2; exact g3 e2)
        rw [hd]
        go_enter Try.func10, Try.ntmps10
        refine wp_seq_k fun K hK => ?_
        have HK := Lib.hid hK; clear hK
        go_wp2_with fail
        refine HK.out _ _ ?_
        clear HK K
        generalize ((W.alloc (.cells #[.slice p1 l1.length c1, .slice p2 l2.length c2, .slice p3 l3.length c3, .slice p4 l4.length c4, .slice p5 l5.length c5, .slice p6 l6.length c6, .int .i64 asked, .int .i64 steps] 29)).alloc (.cells #[.slice q1 m1.length d1, .slice q2 m2.length d2, .slice q3 m3.length d3, .slice q4 m4.length d4, .slice q5 m5.length d5, .slice q6 m6.length d6, .int .i64 asked', .int .i64 steps'] 29)) = w2 at *
        have r0 := cell_regrown (show w2.cell? ⟨S, 0, none⟩ = some (.slice p1 l1.length c1) from hA0.cell 0)
        have r1 := cell_regrown (show w2.cell? ⟨S, 1, none⟩ = some (.slice p2 l2.length c2) from hA0.cell 1)
        have r2 := cell_regrown (show w2.cell? ⟨S, 2, none⟩ = some (.slice p3 l3.length c3) from hA0.cell 2)
        have r3 := cell_regrown (show w2.cell? ⟨S, 3, none⟩ = some (.slice p4 l4.length c4) from hA0.cell 3)
        have r4 := cell_regrown (show w2.cell? ⟨S, 4, none⟩ = some (.slice p5 l5.length c5) from hA0.cell 4)
        have r5 := cell_regrown (show w2.cell? ⟨S, 5, none⟩ = some (.slice p6 l6.length c6) from hA0.cell 5)
        have r6 := cell_regrown (show w2.cell? ⟨S, 6, none⟩ = some (.int .i64 asked) from hA0.cell 6)
        have r7 := cell_regrown (show w2.cell? ⟨S, 7, none⟩ = some (.int .i64 steps) from hA0.cell 7)
        have e0 := cell_regrown (show w2.cell? ⟨S + 1, 0, none⟩ = some (.slice q1 m1.length d1) from hB0.cell 0)
        have e1 := cell_regrown (show w2.cell? ⟨S + 1, 1, none⟩ = some (.slice q2 m2.length d2) from hB0.cell 1)
        have e2 := cell_regrown (show w2.cell? ⟨S + 1, 2, none⟩ = some (.slice q3 m3.length d3) from hB0.cell 2)
        have e3 := cell_regrown (show w2.cell? ⟨S + 1, 3, none⟩ = some (.slice q4 m4.length d4) from hB0.cell 3)
        have e4 := cell_regrown (show w2.cell? ⟨S + 1, 4, none⟩ = some (.slice q5 m5.length d5) from hB0.cell 4)
        have e5 := cell_regrown (show w2.cell? ⟨S + 1, 5, none⟩ = some (.slice q6 m6.length d6) from hB0.cell 5)
        have e6 := cell_regrown (show w2.cell? ⟨S + 1, 6, none⟩ = some (.int .i64 asked') from hB0.cell 6)
        have e7 := cell_regrown (show w2.cell? ⟨S + 1, 7, none⟩ = some (.int .i64 steps') from hB0.cell 7)
        refine wp_seq_k fun K hK => ?_
        refine wp_seq_k fun K1 hK1 => ?_
        have HK := Lib.hid hK; have HK1 := Lib.hid hK1; clear hK hK1
        refine seq_below (by dsimp only [List.append]) ?_
        repeat (go_big_quiet_step (fail))
        refine wpQuiet_nil ?_
        intro w3 hb
        refine HK1.out _ _ ?_
        clear HK1 K1 r0 e0 r1 e1 r2 e2 r3 e3 r4 e4 r5 e5 r6 e6 r7 e7
        go_wp2_with fail
        go_ret
        exact ⟨rfl, hb0.trans (hb.mono (hbn ▸ hb0.size))⟩
      · have k3 : ((l3.length : Int) != (m3.length : Int)) = false := by simp; omega
        rcases (Classical.em (l4.length = m4.length)).symm with g4 | g4
        · have k4 : ((l4.length : Int) != (m4.length : Int)) = true := by simp; omega
          have hd := HNE.out (fun e => by have e2 := congrArg (fun z => (StC.threads z).length) e; simp [St.c] at e2; exact g4 e2)
          rw [hd]
          go_enter Try.func10, Try.ntmps10
          refine wp_seq_k fun K hK => ?_
          have HK := Lib.hid hK; clear hK
          go_wp2_with fail
          refine HK.out _ _ ?_
          clear HK K
          generalize ((W.alloc (.cells #[.slice p1 l1.length c1, .slice p2 l2.length c2, .slice p3 l3.length c3, .slice p4 l4.length c4, .slice p5 l5.length c5, .slice p6 l6.length c6, .int .i64 asked, .int .i64 steps] 29)).alloc (.cells #[.slice q1 m1.length d1, .slice q2 m2.length d2, .slice q3 m3.length d3, .slice q4 m4.length d4, .slice q5 m5.length d5, .slice q6 m6.length d6, .int .i64 asked', .int .i64 steps'] 29)) = w2 at *
          have r0 := cell_regrown (show w2.cell? ⟨S, 0, none⟩ = some (.slice p1 l1.length c1) from hA0.cell 0)
          have r1 := cell_regrown (show w2.cell? ⟨S, 1, none⟩ = some (.slice p2 l2.length c2) from hA0.cell 1)
          have r2 := cell_regrown (show w2.cell? ⟨S, 2, none⟩ = some (.slice p3 l3.length c3) from hA0.cell 2)
          have r3 := cell_regrown (show w2.cell? ⟨S, 3, none⟩ = some (.slice p4 l4.length c4) from hA0.cell 3)
          have r4 := cell_regrown (show w2.cell? ⟨S, 4, none⟩ = some (.slice p5 l5.length c5) from hA0.cell 4)
          have r5 := cell_regrown (show w2.cell? ⟨S, 5, none⟩ = some (.slice p6 l6.length c6) from hA0.cell 5)
          have r6 := cell_regrown (show w2.cell? ⟨S, 6, none⟩ = some (.int .i64 asked) from hA0.cell 6)
          have r7 := cell_regrown (show w2.cell? ⟨S, 7, none⟩ = some (.int .i64 steps) from hA0.cell 7)
          have e0 := cell_regrown (show w2.cell? ⟨S + 1, 0, none⟩ = some (.slice q1 m1.length d1) from hB0.cell 0)
          have e1 := cell_regrown (show w2.cell? ⟨S + 1, 1, none⟩ = some (.slice q2 m2.length d2) from hB0.cell 1)
          have e2 := cell_regrown (show w2.cell? ⟨S + 1, 2, none⟩ = some (.slice q3 m3.length d3) from hB0.cell 2)
          have e3 := cell_regrown (show w2.cell? ⟨S + 1, 3, none⟩ = some (.slice q4 m4.length d4) from hB0.cell 3)
          have e4 := cell_regrown (show w2.cell? ⟨S + 1, 4, none⟩ = some (.slice q5 m5.length d5) from hB0.cell 4)
          have e5 := cell_regrown (show w2.cell? ⟨S + 1, 5, none⟩ = some (.slice q6 m6.length d6) from hB0.cell 5)
          have e6 := cell_regrown (show w2.cell? ⟨S + 1, 6, none⟩ = some (.int .i64 asked') from hB0.cell 6)
          have e7 := cell_regrown (show w2.cell? ⟨S + 1, 7, none⟩ = some (.int .i64 steps') from hB0.cell 7)
          refine wp_seq_k fun K hK => ?_
          refine wp_seq_k fun K1 hK1 => ?_
          have HK := Lib.hid hK; have HK1 := Lib.hid hK1; clear hK hK1
          refine seq_below (by dsimp only [List.append]) ?_
          repeat (go_big_quiet_step (fail))
          refine wpQuiet_nil ?_
          intro w3 hb
          refine HK1.out _ _ ?_
          clear HK1 K1 r0 e0 r1 e1 r2 e2 r3 e3 r4 e4 r5 e5 r6 e6 r7 e7
          go_wp2_with fail
          go_ret
          exact ⟨rfl, hb0.trans (hb.mono (hbn ▸ hb0.size))⟩
        · have k4 : ((l4.length : Int) != (m4.length : Int)) = false := by simp; omega
          rcases (Classical.em (l5.length = m5.length)).symm with g5 | g5
          · have k5 : ((l5.length : Int) != (m5.length : Int)) = true := by simp; omega
            have hd := HNE.out (fun e => by have e2 := congrArg (fun z => (StC.ends z).length) e; simp [St.c] at e2; exact g5 e2)
            rw [hd]
            go_enter Try.func10, Try.ntmps10
            refine wp_seq_k fun K hK => ?_
            have HK := Lib.hid hK; clear hK
            go_wp2_with fail
            refine HK.out _ _ ?_
            clear HK K
            generalize ((W.alloc (.cells #[.slice p1 l1.length c1, .slice p2 l2.length c2, .slice p3 l3.length c3, .slice p4 l4.length c4, .slice p5 l5.length c5, .slice p6 l6.length c6, .int .i64 asked, .int .i64 steps] 29)).alloc (.cells #[.slice q1 m1.length d1, .slice q2 m2.length d2, .slice q3 m3.length d3, .slice q4 m4.length d4, .slice q5 m5.length d5, .slice q6 m6.length d6, .int .i64 asked', .int .i64 steps'] 29)) = w2 at *
            have r0 := cell_regrown (show w2.cell? ⟨S, 0, none⟩ = some (.slice p1 l1.length c1) from hA0.cell 0)
            have r1 := cell_regrown (show w2.cell? ⟨S, 1, none⟩ = some (.slice p2 l2.length c2) from hA0.cell 1)
            have r2 := cell_regrown (show w2.cell? ⟨S, 2, none⟩ = some (.slice p3 l3.length c3) from hA0.cell 2)
            have r3 := cell_regrown (show w2.cell? ⟨S, 3, none⟩ = some (.slice p4 l4.length c4) from hA0.cell 3)
            have r4 := cell_regrown (show w2.cell? ⟨S, 4, none⟩ = some (.slice p5 l5.length c5) from hA0.cell 4)
            have r5 := cell_regrown (show w2.cell? ⟨S, 5, none⟩ = some (.slice p6 l6.length c6) from hA0.cell 5)
            have r6 := cell_regrown (show w2.cell? ⟨S, 6, none⟩ = some (.int .i64 asked) from hA0.cell 6)
            have r7 := cell_regrown (show w2.cell? ⟨S, 7, none⟩ = some (.int .i64 steps) from hA0.cell 7)
            have e0 := cell_regrown (show w2.cell? ⟨S + 1, 0, none⟩ = some (.slice q1 m1.length d1) from hB0.cell 0)
            have e1 := cell_regrown (show w2.cell? ⟨S + 1, 1, none⟩ = some (.slice q2 m2.length d2) from hB0.cell 1)
            have e2 := cell_regrown (show w2.cell? ⟨S + 1, 2, none⟩ = some (.slice q3 m3.length d3) from hB0.cell 2)
            have e3 := cell_regrown (show w2.cell? ⟨S + 1, 3, none⟩ = some (.slice q4 m4.length d4) from hB0.cell 3)
            have e4 := cell_regrown (show w2.cell? ⟨S + 1, 4, none⟩ = some (.slice q5 m5.length d5) from hB0.cell 4)
            have e5 := cell_regrown (show w2.cell? ⟨S + 1, 5, none⟩ = some (.slice q6 m6.length d6) from hB0.cell 5)
            have e6 := cell_regrown (show w2.cell? ⟨S + 1, 6, none⟩ = some (.int .i64 asked') from hB0.cell 6)
            have e7 := cell_regrown (show w2.cell? ⟨S + 1, 7, none⟩ = some (.int .i64 steps') from hB0.cell 7)
            refine wp_seq_k fun K hK => ?_
            refine wp_seq_k fun K1 hK1 => ?_
            have HK := Lib.hid hK; have HK1 := Lib.hid hK1; clear hK hK1
            refine seq_below (by dsimp only [List.append]) ?_
            repeat (go_big_quiet_step (fail))
            refine wpQuiet_nil ?_
            intro w3 hb
            refine HK1.out _ _ ?_
            clear HK1 K1 r0 e0 r1 e1 r2 e2 r3 e3 r4 e4 r5 e5 r6 e6 r7 e7
            go_wp2_with fail
            go_ret
            exact ⟨rfl, hb0.trans (hb.mono (hbn ▸ hb0.size))⟩
          · have k5 : ((l5.length : Int) != (m5.length : Int)) = false := by simp; omega
            have hsv := fun d os => Calls.regrown_of (d := d) (os := os) (sameVals_any (RdVl.st _ _ _ (RdVl.st _ _ _ s6 (hbn ▸ hb0 : Below W.heap.size W _)) (below_regrown ((W.alloc (.cells #[.slice p1 l1.length c1, .slice p2 l2.length c2, .slice p3 l3.length c3, .slice p4 l4.length c4, .slice p5 l5.length c5, .slice p6 l6.length c6, .int .i64 asked, .int .i64 steps] 29)).alloc (.cells #[.slice q1 m1.length d1, .slice q2 m2.length d2, .slice q3 m3.length d3, .slice q4 m4.length d4, .slice q5 m5.length d5, .slice q6 m6.length d6, .int .i64 asked', .int .i64 steps'] 29)) d os)) (RdVl.st _ _ _ (RdVl.st _ _ _ t6 (hbn ▸ hb0 : Below W.heap.size W _)) (below_regrown ((W.alloc (.cells #[.slice p1 l1.length c1, .slice p2 l2.length c2, .slice p3 l3.length c3, .slice p4 l4.length c4, .slice p5 l5.length c5, .slice p6 l6.length c6, .int .i64 asked, .int .i64 steps] 29)).alloc (.cells #[.slice q1 m1.length d1, .slice q2 m2.length d2, .slice q3 m3.length d3, .slice q4 m4.length d4, .slice q5 m5.length d5, .slice q6 m6.length d6, .int .i64 asked', .int .i64 steps'] 29)) d os)))
            dsimp only [Sv.val] at hsv
            rcases (Classical.em (l6 = m6)).symm with g6 | g6
            · have hd := HNE.out (fun e => by have e2 := congrArg StC.said e; simp [St.c] at e2; exact g6 e2)
              rw [hd]
              rw [decide_eq_false g6] at hsv
              have HSV := Lib.hid hsv; clear hsv
              go_enter Try.func10, Try.ntmps10
              refine wp_seq_k fun K hK => ?_
              have HK := Lib.hid hK; clear hK
              go_wp2_with fail
              refine HK.out _ _ ?_
              clear HK K
              generalize ((W.alloc (.cells #[.slice p1 l1.length c1, .slice p2 l2.length c2, .slice p3 l3.length c3, .slice p4 l4.length c4, .slice p5 l5.length c5, .slice p6 l6.length c6, .int .i64 asked, .int .i64 steps] 29)).alloc (.cells #[.slice q1 m1.length d1, .slice q2 m2.length d2, .slice q3 m3.length d3, .slice q4 m4.length d4, .slice q5 m5.length d5, .slice q6 m6.length d6, .int .i64 asked', .int .i64 steps'] 29)) = w2 at *
              have r0 := cell_regrown (show w2.cell? ⟨S, 0, none⟩ = some (.slice p1 l1.length c1) from hA0.cell 0)
              have r1 := cell_regrown (show w2.cell? ⟨S, 1, none⟩ = some (.slice p2 l2.length c2) from hA0.cell 1)
              have r2 := cell_regrown (show w2.cell? ⟨S, 2, none⟩ = some (.slice p3 l3.length c3) from hA0.cell 2)
              have r3 := cell_regrown (show w2.cell? ⟨S, 3, none⟩ = some (.slice p4 l4.length c4) from hA0.cell 3)
              have r4 := cell_regrown (show w2.cell? ⟨S, 4, none⟩ = some (.slice p5 l5.length c5) from hA0.cell 4)
              have r5 := cell_regrown (show w2.cell? ⟨S, 5, none⟩ = some (.slice p6 l6.length c6) from hA0.cell 5)
              have r6 := cell_regrown (show w2.cell? ⟨S, 6, none⟩ = some (.int .i64 asked) from hA0.cell 6)
              have r7 := cell_regrown (show w2.cell? ⟨S, 7, none⟩ = some (.int .i64 steps) from hA0.cell 7)
              have e0 := cell_regrown (show w2.cell? ⟨S + 1, 0, none⟩ = some (.slice q1 m1.length d1) from hB0.cell 0)
              have e1 := cell_regrown (show w2.cell? ⟨S + 1, 1, none⟩ = some (.slice q2 m2.length d2) from hB0.cell 1)
              have e2 := cell_regrown (show w2.cell? ⟨S + 1, 2, none⟩ = some (.slice q3 m3.length d3) from hB0.cell 2)
              have e3 := cell_regrown (show w2.cell? ⟨S + 1, 3, none⟩ = some (.slice q4 m4.length d4) from hB0.cell 3)
              have e4 := cell_regrown (show w2.cell? ⟨S + 1, 4, none⟩ = some (.slice q5 m5.length d5) from hB0.cell 4)
              have e5 := cell_regrown (show w2.cell? ⟨S + 1, 5, none⟩ = some (.slice q6 m6.length d6) from hB0.cell 5)
              have e6 := cell_regrown (show w2.cell? ⟨S + 1, 6, none⟩ = some (.int .i64 asked') from hB0.cell 6)
              have e7 := cell_regrown (show w2.cell? ⟨S + 1, 7, none⟩ = some (.int .i64 steps') from hB0.cell 7)
              refine wp_seq_k fun K hK => ?_
              refine wp_seq_k fun K1 hK1 => ?_
              have HK := Lib.hid hK; have HK1 := Lib.hid hK1; clear hK hK1
              refine seq_below (by dsimp only [List.append]) ?_
              repeat (go_big_quiet_step (with_reducible exact HSV.out _ _))
              refine wpQuiet_nil ?_
              intro w3 hb
              refine HK1.out _ _ ?_
              clear HK1 K1 r0 e0 r1 e1 r2 e2 r3 e3 r4 e4 r5 e5 r6 e6 r7 e7
              go_wp2_with fail
              go_ret
              exact ⟨rfl, hb0.trans (hb.mono (hbn ▸ hb0.size))⟩
            · rw [decide_eq_true g6] at hsv
              have G6 := Lib.hid g6; clear g6
              have HSV := Lib.hid hsv; clear hsv
              rcases (Classical.em (asked = asked')).symm with g7 | g7
              · have k7 : (asked != asked') = true := by simpa using g7
                have hd := HNE.out (fun e => by have e2 := congrArg StC.asked e; simp [St.c] at e2; exact g7 e2)
                rw [hd]
                go_enter Try.func10, Try.ntmps10
                refine wp_seq_k fun K hK => ?_
                have HK := Lib.hid hK; clear hK
                go_wp2_with fail
                refine HK.out _ _ ?_
                clear HK K
                generalize ((W.alloc (.cells #[.slice p1 l1.length c1, .slice p2 l2.length c2, .slice p3 l3.length c3, .slice p4 l4.length c4, .slice p5 l5.length c5, .slice p6 l6.length c6, .int .i64 asked, .int .i64 steps] 29)).alloc (.cells #[.slice q1 m1.length d1, .slice q2 m2.length d2, .slice q3 m3.length d3, .slice q4 m4.length d4, .slice q5 m5.length d5, .slice q6 m6.length d6, .int .i64 asked', .int .i64 steps'] 29)) = w2 at *
                have r0 := cell_regrown (show w2.cell? ⟨S, 0, none⟩ = some (.slice p1 l1.length c1) from hA0.cell 0)
                have r1 := cell_regrown (show w2.cell? ⟨S, 1, none⟩ = some (.slice p2 l2.length c2) from hA0.cell 1)
                have r2 := cell_regrown (show w2.cell? ⟨S, 2, none⟩ = some (.slice p3 l3.length c3) from hA0.cell 2)
                have r3 := cell_regrown (show w2.cell? ⟨S, 3, none⟩ = some (.slice p4 l4.length c4) from hA0.cell 3)
                have r4 := cell_regrown (show w2.cell? ⟨S, 4, none⟩ = some (.slice p5 l5.length c5) from hA0.cell 4)
                have r5 := cell_regrown (show w2.cell? ⟨S, 5, none⟩ = some (.slice p6 l6.length c6) from hA0.cell 5)
                have r6 := cell_regrown (show w2.cell? ⟨S, 6, none⟩ = some (.int .i64 asked) from hA0.cell 6)
                have r7 := cell_regrown (show w2.cell? ⟨S, 7, none⟩ = some (.int .i64 steps) from hA0.cell 7)
                have e0 := cell_regrown (show w2.cell? ⟨S + 1, 0, none⟩ = some (.slice q1 m1.length d1) from hB0.cell 0)
                have e1 := cell_regrown (show w2.cell? ⟨S + 1, 1, none⟩ = some (.slice q2 m2.length d2) from hB0.cell 1)
                have e2 := cell_regrown (show w2.cell? ⟨S + 1, 2, none⟩ = some (.slice q3 m3.length d3) from hB0.cell 2)
                have e3 := cell_regrown (show w2.cell? ⟨S + 1, 3, none⟩ = some (.slice q4 m4.length d4) from hB0.cell 3)
                have e4 := cell_regrown (show w2.cell? ⟨S + 1, 4, none⟩ = some (.slice q5 m5.length d5) from hB0.cell 4)
                have e5 := cell_regrown (show w2.cell? ⟨S + 1, 5, none⟩ = some (.slice q6 m6.length d6) from hB0.cell 5)
                have e6 := cell_regrown (show w2.cell? ⟨S + 1, 6, none⟩ = some (.int .i64 asked') from hB0.cell 6)
                have e7 := cell_regrown (show w2.cell? ⟨S + 1, 7, none⟩ = some (.int .i64 steps') from hB0.cell 7)
                refine wp_seq_k fun K hK => ?_
                refine wp_seq_k fun K1 hK1 => ?_
                have HK := Lib.hid hK; have HK1 := Lib.hid hK1; clear hK hK1
                refine seq_below (by dsimp only [List.append]) ?_
                repeat (go_big_quiet_step (with_reducible exact HSV.out _ _))
                refine wpQuiet_nil ?_
                intro w3 hb
                refine HK1.out _ _ ?_
                clear HK1 K1 r0 e0 r1 e1 r2 e2 r3 e3 r4 e4 r5 e5 r6 e6 r7 e7
                go_wp2_with fail
                go_ret
                exact ⟨rfl, hb0.trans (hb.mono (hbn ▸ hb0.size))⟩
              · have k7 : (asked != asked') = false := by simpa using g7
                have G7 := Lib.hid g7; clear g7
                rcases (Classical.em (steps = steps')).symm with g8 | g8
                · have k8 : (steps != steps') = true := by simpa using g8
                  have hd := HNE.out (fun e => by have e2 := congrArg StC.steps e; simp [St.c] at e2; exact g8 e2)
                  rw [hd]
                  go_enter Try.func10, Try.ntmps10
                  refine wp_seq_k fun K hK => ?_
                  have HK := Lib.hid hK; clear hK
                  go_wp2_with fail
                  refine HK.out _ _ ?_
                  clear HK K
                  generalize ((W.alloc (.cells #[.slice p1 l1.length c1, .slice p2 l2.length c2, .slice p3 l3.length c3, .slice p4 l4.length c4, .slice p5 l5.length c5, .slice p6 l6.length c6, .int .i64 asked, .int .i64 steps] 29)).alloc (.cells #[.slice q1 m1.length d1, .slice q2 m2.length d2, .slice q3 m3.length d3, .slice q4 m4.length d4, .slice q5 m5.length d5, .slice q6 m6.length d6, .int .i64 asked', .int .i64 steps'] 29)) = w2 at *
                  have r0 := cell_regrown (show w2.cell? ⟨S, 0, none⟩ = some (.slice p1 l1.length c1) from hA0.cell 0)
                  have r1 := cell_regrown (show w2.cell? ⟨S, 1, none⟩ = some (.slice p2 l2.length c2) from hA0.cell 1)
                  have r2 := cell_regrown (show w2.cell? ⟨S, 2, none⟩ = some (.slice p3 l3.length c3) from hA0.cell 2)
                  have r3 := cell_regrown (show w2.cell? ⟨S, 3, none⟩ = some (.slice p4 l4.length c4) from hA0.cell 3)
                  have r4 := cell_regrown (show w2.cell? ⟨S, 4, none⟩ = some (.slice p5 l5.length c5) from hA0.cell 4)
                  have r5 := cell_regrown (show w2.cell? ⟨S, 5, none⟩ = some (.slice p6 l6.length c6) from hA0.cell 5)
                  have r6 := cell_regrown (show w2.cell? ⟨S, 6, none⟩ = some (.int .i64 asked) from hA0.cell 6)
                  have r7 := cell_regrown (show w2.cell? ⟨S, 7, none⟩ = some (.int .i64 steps) from hA0.cell 7)
                  have e0 := cell_regrown (show w2.cell? ⟨S + 1, 0, none⟩ = some (.slice q1 m1.length d1) from hB0.cell 0)
                  have e1 := cell_regrown (show w2.cell? ⟨S + 1, 1, none⟩ = some (.slice q2 m2.length d2) from hB0.cell 1)
                  have e2 := cell_regrown (show w2.cell? ⟨S + 1, 2, none⟩ = some (.slice q3 m3.length d3) from hB0.cell 2)
                  have e3 := cell_regrown (show w2.cell? ⟨S + 1, 3, none⟩ = some (.slice q4 m4.length d4) from hB0.cell 3)
                  have e4 := cell_regrown (show w2.cell? ⟨S + 1, 4, none⟩ = some (.slice q5 m5.length d5) from hB0.cell 4)
                  have e5 := cell_regrown (show w2.cell? ⟨S + 1, 5, none⟩ = some (.slice q6 m6.length d6) from hB0.cell 5)
                  have e6 := cell_regrown (show w2.cell? ⟨S + 1, 6, none⟩ = some (.int .i64 asked') from hB0.cell 6)
                  have e7 := cell_regrown (show w2.cell? ⟨S + 1, 7, none⟩ = some (.int .i64 steps') from hB0.cell 7)
                  refine wp_seq_k fun K hK => ?_
                  refine wp_seq_k fun K1 hK1 => ?_
                  have HK := Lib.hid hK; have HK1 := Lib.hid hK1; clear hK hK1
                  refine seq_below (by dsimp only [List.append]) ?_
                  repeat (go_big_quiet_step (with_reducible exact HSV.out _ _))
                  refine wpQuiet_nil ?_
                  intro w3 hb
                  refine HK1.out _ _ ?_
                  clear HK1 K1 r0 e0 r1 e1 r2 e2 r3 e3 r4 e4 r5 e5 r6 e6 r7 e7
                  go_wp2_with fail
                  go_ret
                  exact ⟨rfl, hb0.trans (hb.mono (hbn ▸ hb0.size))⟩
                · have k8 : (steps != steps') = false := by simpa using g8
                  have G8 := Lib.hid g8; clear g8
                  go_enter Try.func10, Try.ntmps10
                  refine wp_seq_k fun K hK => ?_
                  have HK := Lib.hid hK; clear hK
                  go_wp2_with fail
                  refine HK.out _ _ ?_
                  clear HK K
                  generalize ((W.alloc (.cells #[.slice p1 l1.length c1, .slice p2 l2.length c2, .slice p3 l3.length c3, .slice p4 l4.length c4, .slice p5 l5.length c5, .slice p6 l6.length c6, .int .i64 asked, .int .i64 steps] 29)).alloc (.cells #[.slice q1 m1.length d1, .slice q2 m2.length d2, .slice q3 m3.length d3, .slice q4 m4.length d4, .slice q5 m5.length d5, .slice q6 m6.length d6, .int .i64 asked', .int .i64 steps'] 29)) = w2 at *
                  have r0 := cell_regrown (show w2.cell? ⟨S, 0, none⟩ = some (.slice p1 l1.length c1) from hA0.cell 0)
                  have r1 := cell_regrown (show w2.cell? ⟨S, 1, none⟩ = some (.slice p2 l2.length c2) from hA0.cell 1)
                  have r2 := cell_regrown (show w2.cell? ⟨S, 2, none⟩ = some (.slice p3 l3.length c3) from hA0.cell 2)
                  have r3 := cell_regrown (show w2.cell? ⟨S, 3, none⟩ = some (.slice p4 l4.length c4) from hA0.cell 3)
                  have r4 := cell_regrown (show w2.cell? ⟨S, 4, none⟩ = some (.slice p5 l5.length c5) from hA0.cell 4)
                  have r5 := cell_regrown (show w2.cell? ⟨S, 5, none⟩ = some (.slice p6 l6.length c6) from hA0.cell 5)
                  have r6 := cell_regrown (show w2.cell? ⟨S, 6, none⟩ = some (.int .i64 asked) from hA0.cell 6)
                  have r7 := cell_regrown (show w2.cell? ⟨S, 7, none⟩ = some (.int .i64 steps) from hA0.cell 7)
                  have e0 := cell_regrown (show w2.cell? ⟨S + 1, 0, none⟩ = some (.slice q1 m1.length d1) from hB0.cell 0)
                  have e1 := cell_regrown (show w2.cell? ⟨S + 1, 1, none⟩ = some (.slice q2 m2.length d2) from hB0.cell 1)
                  have e2 := cell_regrown (show w2.cell? ⟨S + 1, 2, none⟩ = some (.slice q3 m3.length d3) from hB0.cell 2)
                  have e3 := cell_regrown (show w2.cell? ⟨S + 1, 3, none⟩ = some (.slice q4 m4.length d4) from hB0.cell 3)
                  have e4 := cell_regrown (show w2.cell? ⟨S + 1, 4, none⟩ = some (.slice q5 m5.length d5) from hB0.cell 4)
                  have e5 := cell_regrown (show w2.cell? ⟨S + 1, 5, none⟩ = some (.slice q6 m6.length d6) from hB0.cell 5)
                  have e6 := cell_regrown (show w2.cell? ⟨S + 1, 6, none⟩ = some (.int .i64 asked') from hB0.cell 6)
                  have e7 := cell_regrown (show w2.cell? ⟨S + 1, 7, none⟩ = some (.int .i64 steps') from hB0.cell 7)
                  refine wp_seq_k fun K hK => ?_
                  refine wp_seq_k fun K1 hK1 => ?_
                  have HK := Lib.hid hK; have HK1 := Lib.hid hK1; clear hK hK1
                  refine seq_below (by dsimp only [List.append]) ?_
                  repeat (go_big_quiet_step (with_reducible exact HSV.out _ _))
                  refine wpQuiet_nil ?_
                  intro w3 hb
                  refine HK1.out _ _ ?_
                  clear HK1 K1 r0 e0 r1 e1 r2 e2 r3 e3 r4 e4 r5 e5 r6 e6 r7 e7
                  go_wp2_with fail
                  refine HK.out _ _ ?_
                  clear HK K
                  have hA3 := hA0.next hb; have hB3 := hB0.next hb
                  have hb3 := hb0.trans (hb.mono (hbn ▸ hb0.size))
                  clear hA0 hB0 hb hb0 HSV
                  have HG1 := Lib.hid g1; have HG2 := Lib.hid g2; have HG3 := Lib.hid g3; have HG4 := Lib.hid g4; have HG5 := Lib.hid g5
                  clear g1 g2 g3 g4 g5 k1 k2 k3 k4 k5 k7 k8
                  go_wp2_with fail
                  go_loopw [5] (fun s5 wr => ∃ k : Nat, k ≤ l1.length ∧ s5 = .int .i64 k ∧ Below S W wr ∧ Blk wr S #[.slice p1 l1.length c1, .slice p2 l2.length c2, .slice p3 l3.length c3, .slice p4 l4.length c4, .slice p5 l5.length c5, .slice p6 l6.length c6, .int .i64 asked, .int .i64 steps] 29 ∧ Blk wr (S + 1) #[.slice q1 m1.length d1, .slice q2 m2.length d2, .slice q3 m3.length d3, .slice q4 m4.length d4, .slice q5 m5.length d5, .slice q6 m6.length d6, .int .i64 asked', .int .i64 steps'] 29 ∧ Hid ((l1.take k).map Ce.c = (m1.take k).map Ce.c)) (fun s5 _ => l1.length - (intOf s5).toNat)
                  case atStart => exact ⟨0, Nat.zero_le _, rfl, hb3, hA3, hB3, by simp [Hid]⟩
                  case round =>
                    obtain ⟨k, hk, rfl, hbl, hA, hB, hno⟩ := hrel
                    by_cases hlt : k < l1.length
                    · skip
                      have hltm : k < m1.length := by have := HG1.out; omega
                      have hblW : Below W.heap.size W wr := hbn ▸ hbl
                      have hSr := RdCe.st _ _ _ s1 hblW
                      have hTr := RdCe.st _ _ _ t1 hblW
                      obtain ⟨b, off, hp, hb, hc⟩ := hSr.at_ (fun _ => rfl) (by omega) hlt default
                      obtain ⟨b2, off2, hp2, hb2, hc2⟩ := hTr.at_ (fun _ => rfl) (by omega) hltm default
                      dsimp only at hp hp2
                      have hx : l1[k]? = some (l1.getD k default) := by simp [hlt]
                      have hy : m1[k]? = some (m1.getD k default) := by simp [hltm]
                      have hxo := hSr.each (l1.getD k default) (by simp [hlt])
                      have hyo := hTr.each (m1.getD k default) (by simp [hltm])
                      generalize l1.getD k default = x at *
                      generalize m1.getD k default = y at *
                      obtain ⟨x1, x2, ⟨xp, xc, xl⟩, ⟨xq, xd, xm⟩⟩ := x
                      obtain ⟨y1, y2, ⟨yp, yc, yl⟩, ⟨yq, yd, ym⟩⟩ := y
                      have hc0_ : wr.cell? ⟨b, off + k * 4, none⟩ = some (.int .i64 x1) := hc 0 _ rfl
                      have hd0_ : wr.cell? ⟨b2, off2 + k * 4, none⟩ = some (.int .i64 y1) := hc2 0 _ rfl
                      have hc1_ : wr.cell? ⟨b, off + k * 4 + 1, none⟩ = some (.int .i64 x2) := hc 1 _ rfl
                      have hd1_ : wr.cell? ⟨b2, off2 + k * 4 + 1, none⟩ = some (.int .i64 y2) := hc2 1 _ rfl
                      have hc2_ : wr.cell? ⟨b, off + k * 4 + 2, none⟩ = some (.slice xp xl.length xc) := hc 2 _ rfl
                      have hd2_ : wr.cell? ⟨b2, off2 + k * 4 + 2, none⟩ = some (.slice yp yl.length yc) := hc2 2 _ rfl
                      have hc3_ : wr.cell? ⟨b, off + k * 4 + 3, none⟩ = some (.slice xq xm.length xd) := hc 3 _ rfl
                      have hd3_ : wr.cell? ⟨b2, off2 + k * 4 + 3, none⟩ = some (.slice yq ym.length yd) := hc2 3 _ rfl
                      have uc0 := id (show wr.cell? ⟨S, 0, none⟩ = some (.slice p1 l1.length c1) from hA.cell 0)
                      have uc1 := id (show wr.cell? ⟨S + 1, 0, none⟩ = some (.slice q1 m1.length d1) from hB.cell 0)
                      have ur0 := cell_regrown uc0; have ur1 := cell_regrown uc1
                      subst hp hp2
                      have HX := Lib.hid hx; have HY := Lib.hid hy; clear hx hy hc hc2 hSr hTr
                      have r0 := cell_regrown hc0_; have e0 := cell_regrown hd0_
                      have r1 := cell_regrown hc1_; have e1 := cell_regrown hd1_
                      have r2 := cell_regrown hc2_; have e2 := cell_regrown hd2_
                      have r3 := cell_regrown hc3_; have e3 := cell_regrown hd3_
                      clear hc0_ hd0_ hc1_ hd1_ hc2_ hd2_ hc3_ hd3_
                      go_wp2_with fail
                      refine wp_region_plan (fun w' => ∃ p : Regrown, w' = grow (redrawn wr p.d) p.os) (.two [0, 1, 2, 3, 4, 5, 6, 7, 8, 9] 10 (.one [] 11 (.one [] 12 (.one [] 13 (.last [])))) 11 (.one [] 10 (.one [] 12 (.one [] 13 (.last []))))) rfl (by kernel_rfl) (by kernel_rfl) (by kernel_rfl) (regrown_of_below ((Below.refl _ _).drew)) ?_
                      change wpPlan _ _ _ _ _ _ wr.drew
                      refine wpPlan_two fun K K' hK hK' => ?_
                      have HK := Lib.hid hK; have HK' := Lib.hid hK'; clear hK hK'
                      simp only [pick, List.getD_cons_succ, List.getD_cons_zero]
                      iterate 10 (go_big_quiet_step (fail))
                      refine wpQuiet_nil ?_
                      clear r0 e0 r1 e1 r2 e2 r3 e3 ur0 ur1
                      have hbd := (Below.refl wr.heap.size wr).drew
                      generalize wr.drew = wd at *
                      constructor
                      case' left =>
                        clear HK' K'
                        have a1 := hbd.alloc hbd.size (.cells #[.int .i64 0, .int .i64 0, .slice none 0 0, .slice none 0 0] 52)
                        have hX := Blk.mk2 wd #[.int .i64 0, .int .i64 0, .slice none 0 0, .slice none 0 0] 52
                        go_wp2_with fail
                        refine ⟨regrown_of_below a1, HK.out _ _ ?_⟩
                        clear HK K
                        have hge1 : wr.heap.size ≤ wd.heap.size := hbd.size
                        have hlt1 : wd.heap.size < (wd.alloc (.cells #[.int .i64 0, .int .i64 0, .slice none 0 0, .slice none 0 0] 52)).heap.size := by simp
                        generalize hbn1 : wd.heap.size = BX at *
                        generalize wd.alloc (.cells #[.int .i64 0, .int .i64 0, .slice none 0 0, .slice none 0 0] 52) = we at *
                        refine wpPlan_one fun K hK => ?_
                        have HK := Lib.hid hK; clear hK
                        simp only [pick, List.getD_cons_succ, List.getD_cons_zero]
                        refine wpQuiet_nil ?_
                        have a2 := a1.alloc a1.size (.cells #[.int .i64 0, .int .i64 0, .slice none 0 0, .slice none 0 0] 52)
                        have hY := Blk.mk2 we #[.int .i64 0, .int .i64 0, .slice none 0 0, .slice none 0 0] 52
                        replace hX := hX.alloc (.cells #[.int .i64 0, .int .i64 0, .slice none 0 0, .slice none 0 0] 52)
                        go_wp2_with fail
                        refine ⟨regrown_of_below a2, HK.out _ _ ?_⟩
                        clear HK K a1
                        generalize hbn2 : we.heap.size = BY at *
                        generalize we.alloc (.cells #[.int .i64 0, .int .i64 0, .slice none 0 0, .slice none 0 0] 52) = wf at *
                        refine wpPlan_one fun K hK => ?_
                        have HK := Lib.hid hK; clear hK
                        simp only [pick, List.getD_cons_succ, List.getD_cons_zero]
                        refine wpQuiet_nil ?_
                        have q0 : wf.cell? ⟨BX, 0, none⟩ = some (.int .i64 0) := hX.cell 0
                        have f0 := hX.frozen 0
                        have q1 : wf.cell? ⟨BX, 1, none⟩ = some (.int .i64 0) := hX.cell 1
                        have f1 := hX.frozen 1
                        have q2 : wf.cell? ⟨BX, 2, none⟩ = some (.slice none 0 0) := hX.cell 2
                        have f2 := hX.frozen 2
                        have q3 : wf.cell? ⟨BX, 3, none⟩ = some (.slice none 0 0) := hX.cell 3
                        have f3 := hX.frozen 3
                        go_wp2_with fail
                        have a3 : Below wr.heap.size wr ((((wf.setCell ⟨BX, 0, none⟩ (.int .i64 x1)).setCell ⟨BX, 1, none⟩ (.int .i64 x2)).setCell ⟨BX, 2, none⟩ (.slice xp xl.length xc)).setCell ⟨BX, 3, none⟩ (.slice xq xm.length xd)) := ((((a2.setCell (p := ⟨BX, 0, none⟩) (by show wr.heap.size ≤ BX; omega) (.int .i64 x1)).setCell (p := ⟨BX, 1, none⟩) (by show wr.heap.size ≤ BX; omega) (.int .i64 x2)).setCell (p := ⟨BX, 2, none⟩) (by show wr.heap.size ≤ BX; omega) (.slice xp xl.length xc)).setCell (p := ⟨BX, 3, none⟩) (by show wr.heap.size ≤ BX; omega) (.slice xq xm.length xd))
                        have hX' : Blk ((((wf.setCell ⟨BX, 0, none⟩ (.int .i64 x1)).setCell ⟨BX, 1, none⟩ (.int .i64 x2)).setCell ⟨BX, 2, none⟩ (.slice xp xl.length xc)).setCell ⟨BX, 3, none⟩ (.slice xq xm.length xd)) BX #[.int .i64 x1, .int .i64 x2, .slice xp xl.length xc, .slice xq xm.length xd] 52 := ((((hX.setL 0 (.int .i64 x1)).setL 1 (.int .i64 x2)).setL 2 (.slice xp xl.length xc)).setL 3 (.slice xq xm.length xd))
                        have hY' := ((((hY.other (C := BX) (k := 0) (.int .i64 x1) (by omega)).other (C := BX) (k := 1) (.int .i64 x2) (by omega)).other (C := BX) (k := 2) (.slice xp xl.length xc) (by omega)).other (C := BX) (k := 3) (.slice xq xm.length xd) (by omega))
                        refine ⟨regrown_of_below a3, HK.out _ _ ?_⟩
                        clear HK K q0 f0 q1 f1 q2 f2 q3 f3 hX hY a2
                        generalize ((((wf.setCell ⟨BX, 0, none⟩ (.int .i64 x1)).setCell ⟨BX, 1, none⟩ (.int .i64 x2)).setCell ⟨BX, 2, none⟩ (.slice xp xl.length xc)).setCell ⟨BX, 3, none⟩ (.slice xq xm.length xd)) = wg at *
                        have a2 := a3; have hX := hX'; have hY := hY'; clear a3 hX' hY'
                        refine wpPlan_one fun K hK => ?_
                        have HK := Lib.hid hK; clear hK
                        simp only [pick, List.getD_cons_succ, List.getD_cons_zero]
                        refine wpQuiet_nil ?_
                        have q0 : wg.cell? ⟨BY, 0, none⟩ = some (.int .i64 0) := hY.cell 0
                        have f0 := hY.frozen 0
                        have q1 : wg.cell? ⟨BY, 1, none⟩ = some (.int .i64 0) := hY.cell 1
                        have f1 := hY.frozen 1
                        have q2 : wg.cell? ⟨BY, 2, none⟩ = some (.slice none 0 0) := hY.cell 2
                        have f2 := hY.frozen 2
                        have q3 : wg.cell? ⟨BY, 3, none⟩ = some (.slice none 0 0) := hY.cell 3
                        have f3 := hY.frozen 3
                        go_wp2_with fail
                        have a3 : Below wr.heap.size wr ((((wg.setCell ⟨BY, 0, none⟩ (.int .i64 y1)).setCell ⟨BY, 1, none⟩ (.int .i64 y2)).setCell ⟨BY, 2, none⟩ (.slice yp yl.length yc)).setCell ⟨BY, 3, none⟩ (.slice yq ym.length yd)) := ((((a2.setCell (p := ⟨BY, 0, none⟩) (by show wr.heap.size ≤ BY; omega) (.int .i64 y1)).setCell (p := ⟨BY, 1, none⟩) (by show wr.heap.size ≤ BY; omega) (.int .i64 y2)).setCell (p := ⟨BY, 2, none⟩) (by show wr.heap.size ≤ BY; omega) (.slice yp yl.length yc)).setCell (p := ⟨BY, 3, none⟩) (by show wr.heap.size ≤ BY; omega) (.slice yq ym.length yd))
                        have hY' : Blk ((((wg.setCell ⟨BY, 0, none⟩ (.int .i64 y1)).setCell ⟨BY, 1, none⟩ (.int .i64 y2)).setCell ⟨BY, 2, none⟩ (.slice yp yl.length yc)).setCell ⟨BY, 3, none⟩ (.slice yq ym.length yd)) BY #[.int .i64 y1, .int .i64 y2, .slice yp yl.length yc, .slice yq ym.length yd] 52 := ((((hY.setL 0 (.int .i64 y1)).setL 1 (.int .i64 y2)).setL 2 (.slice yp yl.length yc)).setL 3 (.slice yq ym.length yd))
                        have hX' := ((((hX.other (C := BY) (k := 0) (.int .i64 y1) (by omega)).other (C := BY) (k := 1) (.int .i64 y2) (by omega)).other (C := BY) (k := 2) (.slice yp yl.length yc) (by omega)).other (C := BY) (k := 3) (.slice yq ym.length yd) (by omega))
                        refine ⟨regrown_of_below a3, HK.out _ _ ?_⟩
                        clear HK K q0 f0 q1 f1 q2 f2 q3 f3 hY hX a2
                        generalize ((((wg.setCell ⟨BY, 0, none⟩ (.int .i64 y1)).setCell ⟨BY, 1, none⟩ (.int .i64 y2)).setCell ⟨BY, 2, none⟩ (.slice yp yl.length yc)).setCell ⟨BY, 3, none⟩ (.slice yq ym.length yd)) = wh at *
                        have a2 := a3; have hY := hY'; have hX := hX'; clear a3 hY' hX'
                        refine wpPlan_last ?_
                        simp only [pick]
                        refine wpQuiet_nil ?_
                        refine NoPanic.normal ?_
                      case' right =>
                        clear HK K
                        have a1 := hbd.alloc hbd.size (.cells #[.int .i64 0, .int .i64 0, .slice none 0 0, .slice none 0 0] 52)
                        have hY := Blk.mk2 wd #[.int .i64 0, .int .i64 0, .slice none 0 0, .slice none 0 0] 52
                        go_wp2_with fail
                        refine ⟨regrown_of_below a1, HK'.out _ _ ?_⟩
                        clear HK' K'
                        have hge1 : wr.heap.size ≤ wd.heap.size := hbd.size
                        have hlt1 : wd.heap.size < (wd.alloc (.cells #[.int .i64 0, .int .i64 0, .slice none 0 0, .slice none 0 0] 52)).heap.size := by simp
                        generalize hbn1 : wd.heap.size = BY at *
                        generalize wd.alloc (.cells #[.int .i64 0, .int .i64 0, .slice none 0 0, .slice none 0 0] 52) = we at *
                        refine wpPlan_one fun K hK => ?_
                        have HK := Lib.hid hK; clear hK
                        simp only [pick, List.getD_cons_succ, List.getD_cons_zero]
                        refine wpQuiet_nil ?_
                        have a2 := a1.alloc a1.size (.cells #[.int .i64 0, .int .i64 0, .slice none 0 0, .slice none 0 0] 52)
                        have hX := Blk.mk2 we #[.int .i64 0, .int .i64 0, .slice none 0 0, .slice none 0 0] 52
                        replace hY := hY.alloc (.cells #[.int .i64 0, .int .i64 0, .slice none 0 0, .slice none 0 0] 52)
                        go_wp2_with fail
                        refine ⟨regrown_of_below a2, HK.out _ _ ?_⟩
                        clear HK K a1
                        generalize hbn2 : we.heap.size = BX at *
                        generalize we.alloc (.cells #[.int .i64 0, .int .i64 0, .slice none 0 0, .slice none 0 0] 52) = wf at *
                        refine wpPlan_one fun K hK => ?_
                        have HK := Lib.hid hK; clear hK
                        simp only [pick, List.getD_cons_succ, List.getD_cons_zero]
                        refine wpQuiet_nil ?_
                        have q0 : wf.cell? ⟨BX, 0, none⟩ = some (.int .i64 0) := hX.cell 0
                        have f0 := hX.frozen 0
                        have q1 : wf.cell? ⟨BX, 1, none⟩ = some (.int .i64 0) := hX.cell 1
                        have f1 := hX.frozen 1
                        have q2 : wf.cell? ⟨BX, 2, none⟩ = some (.slice none 0 0) := hX.cell 2
                        have f2 := hX.frozen 2
                        have q3 : wf.cell? ⟨BX, 3, none⟩ = some (.slice none 0 0) := hX.cell 3
                        have f3 := hX.frozen 3
                        go_wp2_with fail
                        have a3 : Below wr.heap.size wr ((((wf.setCell ⟨BX, 0, none⟩ (.int .i64 x1)).setCell ⟨BX, 1, none⟩ (.int .i64 x2)).setCell ⟨BX, 2, none⟩ (.slice xp xl.length xc)).setCell ⟨BX, 3, none⟩ (.slice xq xm.length xd)) := ((((a2.setCell (p := ⟨BX, 0, none⟩) (by show wr.heap.size ≤ BX; omega) (.int .i64 x1)).setCell (p := ⟨BX, 1, none⟩) (by show wr.heap.size ≤ BX; omega) (.int .i64 x2)).setCell (p := ⟨BX, 2, none⟩) (by show wr.heap.size ≤ BX; omega) (.slice xp xl.length xc)).setCell (p := ⟨BX, 3, none⟩) (by show wr.heap.size ≤ BX; omega) (.slice xq xm.length xd))
                        have hX' : Blk ((((wf.setCell ⟨BX, 0, none⟩ (.int .i64 x1)).setCell ⟨BX, 1, none⟩ (.int .i64 x2)).setCell ⟨BX, 2, none⟩ (.slice xp xl.length xc)).setCell ⟨BX, 3, none⟩ (.slice xq xm.length xd)) BX #[.int .i64 x1, .int .i64 x2, .slice xp xl.length xc, .slice xq xm.length xd] 52 := ((((hX.setL 0 (.int .i64 x1)).setL 1 (.int .i64 x2)).setL 2 (.slice xp xl.length xc)).setL 3 (.slice xq xm.length xd))
                        have hY' := ((((hY.other (C := BX) (k := 0) (.int .i64 x1) (by omega)).other (C := BX) (k := 1) (.int .i64 x2) (by omega)).other (C := BX) (k := 2) (.slice xp xl.length xc) (by omega)).other (C := BX) (k := 3) (.slice xq xm.length xd) (by omega))
                        refine ⟨regrown_of_below a3, HK.out _ _ ?_⟩
                        clear HK K q0 f0 q1 f1 q2 f2 q3 f3 hX hY a2
                        generalize ((((wf.setCell ⟨BX, 0, none⟩ (.int .i64 x1)).setCell ⟨BX, 1, none⟩ (.int .i64 x2)).setCell ⟨BX, 2, none⟩ (.slice xp xl.length xc)).setCell ⟨BX, 3, none⟩ (.slice xq xm.length xd)) = wg at *
                        have a2 := a3; have hX := hX'; have hY := hY'; clear a3 hX' hY'
                        refine wpPlan_one fun K hK => ?_
                        have HK := Lib.hid hK; clear hK
                        simp only [pick, List.getD_cons_succ, List.getD_cons_zero]
                        refine wpQuiet_nil ?_
                        have q0 : wg.cell? ⟨BY, 0, none⟩ = some (.int .i64 0) := hY.cell 0
                        have f0 := hY.frozen 0
                        have q1 : wg.cell? ⟨BY, 1, none⟩ = some (.int .i64 0) := hY.cell 1
                        have f1 := hY.frozen 1
                        have q2 : wg.cell? ⟨BY, 2, none⟩ = some (.slice none 0 0) := hY.cell 2
                        have f2 := hY.frozen 2
                        have q3 : wg.cell? ⟨BY, 3, none⟩ = some (.slice none 0 0) := hY.cell 3
                        have f3 := hY.frozen 3
                        go_wp2_with fail
                        have a3 : Below wr.heap.size wr ((((wg.setCell ⟨BY, 0, none⟩ (.int .i64 y1)).setCell ⟨BY, 1, none⟩ (.int .i64 y2)).setCell ⟨BY, 2, none⟩ (.slice yp yl.length yc)).setCell ⟨BY, 3, none⟩ (.slice yq ym.length yd)) := ((((a2.setCell (p := ⟨BY, 0, none⟩) (by show wr.heap.size ≤ BY; omega) (.int .i64 y1)).setCell (p := ⟨BY, 1, none⟩) (by show wr.heap.size ≤ BY; omega) (.int .i64 y2)).setCell (p := ⟨BY, 2, none⟩) (by show wr.heap.size ≤ BY; omega) (.slice yp yl.length yc)).setCell (p := ⟨BY, 3, none⟩) (by show wr.heap.size ≤ BY; omega) (.slice yq ym.length yd))
                        have hY' : Blk ((((wg.setCell ⟨BY, 0, none⟩ (.int .i64 y1)).setCell ⟨BY, 1, none⟩ (.int .i64 y2)).setCell ⟨BY, 2, none⟩ (.slice yp yl.length yc)).setCell ⟨BY, 3, none⟩ (.slice yq ym.length yd)) BY #[.int .i64 y1, .int .i64 y2, .slice yp yl.length yc, .slice yq ym.length yd] 52 := ((((hY.setL 0 (.int .i64 y1)).setL 1 (.int .i64 y2)).setL 2 (.slice yp yl.length yc)).setL 3 (.slice yq ym.length yd))
                        have hX' := ((((hX.other (C := BY) (k := 0) (.int .i64 y1) (by omega)).other (C := BY) (k := 1) (.int .i64 y2) (by omega)).other (C := BY) (k := 2) (.slice yp yl.length yc) (by omega)).other (C := BY) (k := 3) (.slice yq ym.length yd) (by omega))
                        refine ⟨regrown_of_below a3, HK.out _ _ ?_⟩
                        clear HK K q0 f0 q1 f1 q2 f2 q3 f3 hY hX a2
                        generalize ((((wg.setCell ⟨BY, 0, none⟩ (.int .i64 y1)).setCell ⟨BY, 1, none⟩ (.int .i64 y2)).setCell ⟨BY, 2, none⟩ (.slice yp yl.length yc)).setCell ⟨BY, 3, none⟩ (.slice yq ym.length yd)) = wh at *
                        have a2 := a3; have hY := hY'; have hX := hX'; clear a3 hY' hX'
                        refine wpPlan_last ?_
                        simp only [pick]
                        refine wpQuiet_nil ?_
                        refine NoPanic.normal ?_
                      all_goals
                        have hbf := hbl.trans (a2.mono (hbn ▸ hbl.size))
                        have hA2 := hA.next a2; have hB2 := hB.next a2
                        have X0 : wh.cell? ⟨BX, 0, none⟩ = some (.int .i64 x1) := Blk.cell (show Blk wh BX _ _ from hX) 0
                        have Y0 : wh.cell? ⟨BY, 0, none⟩ = some (.int .i64 y1) := Blk.cell (show Blk wh BY _ _ from hY) 0
                        have X1 : wh.cell? ⟨BX, 1, none⟩ = some (.int .i64 x2) := Blk.cell (show Blk wh BX _ _ from hX) 1
                        have Y1 : wh.cell? ⟨BY, 1, none⟩ = some (.int .i64 y2) := Blk.cell (show Blk wh BY _ _ from hY) 1
                        have X2 : wh.cell? ⟨BX, 2, none⟩ = some (.slice xp xl.length xc) := Blk.cell (show Blk wh BX _ _ from hX) 2
                        have Y2 : wh.cell? ⟨BY, 2, none⟩ = some (.slice yp yl.length yc) := Blk.cell (show Blk wh BY _ _ from hY) 2
                        have X3 : wh.cell? ⟨BX, 3, none⟩ = some (.slice xq xm.length xd) := Blk.cell (show Blk wh BX _ _ from hX) 3
                        have Y3 : wh.cell? ⟨BY, 3, none⟩ = some (.slice yq ym.length yd) := Blk.cell (show Blk wh BY _ _ from hY) 3
                        obtain ⟨xo1, xo2⟩ := hxo; obtain ⟨yo1, yo2⟩ := hyo
                        dsimp only at xo1 xo2 yo1 yo2
                        have sv := sameVals_any (s := ⟨xp, xc, xl⟩) (t := ⟨yp, yc, yl⟩) (RdVl.st _ _ _ xo1 a2) (RdVl.st _ _ _ yo1 a2)
                        dsimp only [Sv.val] at sv
                        have HSV1 := Lib.hid sv; clear sv
                        have hne := fun h => HNE.out (fun e => map_ne (c := Ce.c) HX.out HY.out h (congrArg StC.cells e))
                        have heq := fun h => take_step (c := Ce.c) HX.out HY.out h hno.out
                        have HNX := Lib.hid hne; have HEQ := Lib.hid heq; have HXX := Lib.hid hX; have HYY := Lib.hid hY; clear hne heq hX hY hno
                        have HO2 := Lib.hid xo2; have HP2 := Lib.hid yo2; clear xo1 yo1 xo2 yo2 HX HY
                        clear hbd hbn1 hbn2 hge1 hlt1 hb hb2 hA hB
                        rcases (Classical.em (x1 = y1)).symm with f1 | f1
                        · have kk1 : (x1 != y1) = true := by simpa using f1
                          go_wp2_with fail
                          go_ret
                          exact ⟨ret_bool (HNX.out (fun e => by simp [Ce.c] at e; exact f1 (by simp [e]))).symm, hbf⟩
                        · subst f1
                          rcases (Classical.em (x2 = y2)).symm with f2 | f2
                          · have kk2 : (x2 != y2) = true := by simpa using f2
                            go_wp2_with fail
                            go_ret
                            exact ⟨ret_bool (HNX.out (fun e => by simp [Ce.c] at e; exact f2 (by simp [e]))).symm, hbf⟩
                          · subst f2
                            rcases (Classical.em (xl = yl)).symm with fc | fc
                            · have hsv := HSV1.out
                              rw [decide_eq_false fc] at hsv
                              have HS2 := Lib.hid hsv; clear hsv HSV1
                              go_wp2_with fail
                              refine HS2.out.mono ?_
                              rintro _ wv ⟨rfl, hbv⟩
                              have hbf2 := hbf.trans (hbv.mono (hbn ▸ hbf.size))
                              go_wp2_with fail
                              go_ret
                              exact ⟨ret_bool (HNX.out (fun e => by simp [Ce.c] at e; exact fc (by simp [e]))).symm, hbf2⟩
                            · have hsv := HSV1.out
                              rw [decide_eq_true fc] at hsv
                              have HS2 := Lib.hid hsv; have FCwv := Lib.hid fc; clear hsv fc HSV1
                              go_wp2_with fail
                              refine HS2.out.mono ?_
                              rintro _ wv ⟨rfl, hwv⟩
                              have hbf3 := hbf.trans (hwv.mono (hbn ▸ hbf.size))
                              clear HS2
                              have hA3 := hA2.next hwv; have hB3 := hB2.next hwv; have hXv := Blk.next HXX.out hwv; have hYv := Blk.next HYY.out hwv
                              have U3 : wv.cell? ⟨BX, 3, none⟩ = some (.slice xq xm.length xd) := Blk.cell hXv 3
                              have V3 : wv.cell? ⟨BY, 3, none⟩ = some (.slice yq ym.length yd) := Blk.cell hYv 3
                              have sf := sameFrames_any (s := ⟨xq, xd, xm⟩) (t := ⟨yq, yd, ym⟩) (RdFr.st _ _ _ (RdFr.st _ _ _ HO2.out a2) hwv) (RdFr.st _ _ _ (RdFr.st _ _ _ HP2.out a2) hwv)
                              dsimp only [Sv.val] at sf
                              have HSF := Lib.hid sf; clear sf hA2 hB2 hXv hYv HXX HYY HO2 HP2 X0 Y0 X1 Y1 X2 Y2 X3 Y3
                              rcases (Classical.em (xm.map Fr.c = ym.map Fr.c)).symm with fc | fc
                              · have hsv := HSF.out
                                rw [decide_eq_false fc] at hsv
                                have HS2 := Lib.hid hsv; clear hsv HSF
                                go_wp2_with fail
                                refine HS2.out.mono ?_
                                rintro _ wv ⟨rfl, hbv⟩
                                have hbf2 := hbf3.trans (hbv.mono (hbn ▸ hbf3.size))
                                go_wp2_with fail
                                go_ret
                                exact ⟨ret_bool (HNX.out (fun e => by simp [Ce.c] at e; exact fc (by simp [e]))).symm, hbf2⟩
                              · have hsv := HSF.out
                                rw [decide_eq_true fc] at hsv
                                have HS2 := Lib.hid hsv; have FCwz := Lib.hid fc; clear hsv fc HSF
                                go_wp2_with fail
                                refine HS2.out.mono ?_
                                rintro _ wz ⟨rfl, hwz⟩
                                have hbf4 := hbf3.trans (hwz.mono (hbn ▸ hbf3.size))
                                clear HS2
                                have hA4 := hA3.next hwz; have hB4 := hB3.next hwz; clear hA3 hB3 U3 V3
                                have hfin := HEQ.out (by simp [Ce.c, FCwv.out, FCwz.out])
                                have HF := Lib.hid hfin; clear hfin
                                go_wp2_with fail
                                go_roundw
                                case rel => exact ⟨k + 1, by omega, by go_num, hbf4, hA4, hB4, HF.out⟩
                                case measure => simp [intOf]; omega
                    · obtain rfl : k = l1.length := by omega
                      have hfull := hno.out
                      rw [List.take_length, HG1.out, List.take_length] at hfull
                      have F1 := Lib.hid hfull; clear hfull hno hlt hk
                      have uc0 := id (show wr.cell? ⟨S, 0, none⟩ = some (.slice p1 l1.length c1) from hA.cell 0)
                      have uc1 := id (show wr.cell? ⟨S, 1, none⟩ = some (.slice p2 l2.length c2) from hA.cell 1)
                      go_wp2_with fail
                      clear uc0 uc1
                      obtain ⟨wo, rfl⟩ : ∃ wo : World, wo = wr := ⟨_, rfl⟩
                      go_loopw [8] (fun s5 wr => ∃ k : Nat, k ≤ l2.length ∧ s5 = .int .i64 k ∧ Below S W wr ∧ Blk wr S #[.slice p1 l1.length c1, .slice p2 l2.length c2, .slice p3 l3.length c3, .slice p4 l4.length c4, .slice p5 l5.length c5, .slice p6 l6.length c6, .int .i64 asked, .int .i64 steps] 29 ∧ Blk wr (S + 1) #[.slice q1 m1.length d1, .slice q2 m2.length d2, .slice q3 m3.length d3, .slice q4 m4.length d4, .slice q5 m5.length d5, .slice q6 m6.length d6, .int .i64 asked', .int .i64 steps'] 29 ∧ Hid (l2.take k = m2.take k)) (fun s5 _ => l2.length - (intOf s5).toNat)
                      case atStart => exact ⟨0, Nat.zero_le _, rfl, hbl, hA, hB, by simp [Hid]⟩
                      clear hbl hA hB
                      case round =>
                        obtain ⟨k, hk, rfl, hbl, hA, hB, hno⟩ := hrel
                        by_cases hlt : k < l2.length
                        · skip
                          have hltm : k < m2.length := by have := HG2.out; omega
                          have hblW : Below W.heap.size W wr := hbn ▸ hbl
                          obtain ⟨b, off, hp, hb, hc⟩ := (RdSh.st _ _ _ s2 hblW).at_ (fun _ => rfl) (by omega) hlt default
                          obtain ⟨b2, off2, hp2, hb2, hc2⟩ := (RdSh.st _ _ _ t2 hblW).at_ (fun _ => rfl) (by omega) hltm default
                          dsimp only at hp hp2
                          have hx : l2[k]? = some (l2.getD k default) := by simp [hlt]
                          have hy : m2[k]? = some (m2.getD k default) := by simp [hltm]
                          generalize l2.getD k default = x at *
                          generalize m2.getD k default = y at *
                          have uc0 := id (show wr.cell? ⟨S, 1, none⟩ = some (.slice p2 l2.length c2) from hA.cell 1)
                          have uc1 := id (show wr.cell? ⟨S + 1, 1, none⟩ = some (.slice q2 m2.length d2) from hB.cell 1)
                          obtain ⟨xu, xn⟩ := x
                          obtain ⟨yu, yn⟩ := y
                          have hc0_ : wr.cell? ⟨b, off + k * 2, none⟩ = some (.int .i64 xu) := hc 0 _ rfl
                          have hd0_ : wr.cell? ⟨b2, off2 + k * 2, none⟩ = some (.int .i64 yu) := hc2 0 _ rfl
                          have hc1_ : wr.cell? ⟨b, off + k * 2 + 1, none⟩ = some (.int .i64 xn) := hc 1 _ rfl
                          have hd1_ : wr.cell? ⟨b2, off2 + k * 2 + 1, none⟩ = some (.int .i64 yn) := hc2 1 _ rfl
                          subst hp hp2
                          have HX := Lib.hid hx; have HY := Lib.hid hy; clear hx hy hc hc2 hblW
                          have HA := Lib.hid hA; have HB := Lib.hid hB; clear hA hB
                          by_cases huv : xu = yu ∧ xn = yn
                          · obtain ⟨rfl, rfl⟩ := huv
                            go_wp2_with fail
                            go_quiet (fail)
                            go_wp2_with fail
                            go_roundw
                            case rel =>
                              refine ⟨k + 1, by omega, by go_num, below_drewN hbl _, HA.out, HB.out, ?_⟩
                              unfold Hid
                              rw [List.take_add_one, List.take_add_one, HX.out, HY.out, hno.out]
                            case measure => simp [intOf]; omega
                          · have hfin := HNE.out (fun e => by
                                have e2 := congrArg StC.shapes e
                                simp [St.c] at e2
                                have h1 := HX.out.symm.trans ((congrArg (·[k]?) e2).trans HY.out)
                                simp at h1
                                exact huv (by simpa using h1))
                            have HF := Lib.hid hfin; clear hfin
                            cases h01 : (xu == yu) with
                            | false =>
                              clear huv
                              go_wp2_with fail
                              go_quiet (fail)
                              go_wp2_with fail
                              go_ret
                              exact ⟨ret_bool HF.out.symm, below_drewN hbl _⟩
                            | true =>
                              have hz1 : (xn == yn) = false := by
                                simpa using fun h4 => huv ⟨by simpa using h01, h4⟩
                              clear huv
                              go_wp2_with fail
                              go_quiet (fail)
                              go_wp2_with fail
                              go_ret
                              exact ⟨ret_bool HF.out.symm, below_drewN hbl _⟩
                        · obtain rfl : k = l2.length := by omega
                          have hfull := hno.out
                          rw [List.take_length, HG2.out, List.take_length] at hfull
                          have F2 := Lib.hid hfull; clear hfull hno hlt hk
                          have uc0 := id (show wr.cell? ⟨S, 1, none⟩ = some (.slice p2 l2.length c2) from hA.cell 1)
                          have uc1 := id (show wr.cell? ⟨S, 2, none⟩ = some (.slice p3 l3.length c3) from hA.cell 2)
                          go_wp2_with fail
                          clear uc0 uc1
                          obtain ⟨wo, rfl⟩ : ∃ wo : World, wo = wr := ⟨_, rfl⟩
                          go_loopw [9] (fun s5 wr => ∃ k : Nat, k ≤ l3.length ∧ s5 = .int .i64 k ∧ Below S W wr ∧ Blk wr S #[.slice p1 l1.length c1, .slice p2 l2.length c2, .slice p3 l3.length c3, .slice p4 l4.length c4, .slice p5 l5.length c5, .slice p6 l6.length c6, .int .i64 asked, .int .i64 steps] 29 ∧ Blk wr (S + 1) #[.slice q1 m1.length d1, .slice q2 m2.length d2, .slice q3 m3.length d3, .slice q4 m4.length d4, .slice q5 m5.length d5, .slice q6 m6.length d6, .int .i64 asked', .int .i64 steps'] 29 ∧ Hid ((l3.take k).map txC = (m3.take k).map txC)) (fun s5 _ => l3.length - (intOf s5).toNat)
                          case atStart => exact ⟨0, Nat.zero_le _, rfl, hbl, hA, hB, by simp [Hid]⟩
                          clear hbl hA hB
                          case round =>
                            obtain ⟨k, hk, rfl, hbl, hA, hB, hno⟩ := hrel
                            by_cases hlt : k < l3.length
                            · skip
                              have hltm : k < m3.length := by have := HG3.out; omega
                              have hblW : Below W.heap.size W wr := hbn ▸ hbl
                              obtain ⟨b, off, hp, hb, hc⟩ := (RdTx.st _ _ _ s3 hblW).at_ (fun _ => rfl) (by omega) hlt default
                              obtain ⟨b2, off2, hp2, hb2, hc2⟩ := (RdTx.st _ _ _ t3 hblW).at_ (fun _ => rfl) (by omega) hltm default
                              dsimp only at hp hp2
                              have hx : l3[k]? = some (l3.getD k default) := by simp [hlt]
                              have hy : m3[k]? = some (m3.getD k default) := by simp [hltm]
                              generalize l3.getD k default = x at *
                              generalize m3.getD k default = y at *
                              have uc0 := id (show wr.cell? ⟨S, 2, none⟩ = some (.slice p3 l3.length c3) from hA.cell 2)
                              have uc1 := id (show wr.cell? ⟨S + 1, 2, none⟩ = some (.slice q3 m3.length d3) from hB.cell 2)
                              have hc0_ : wr.cell? ⟨b, off + k, none⟩ = some (.string x) := by have := hc 0 _ rfl; simpa using this
                              have hd0_ : wr.cell? ⟨b2, off2 + k, none⟩ = some (.string y) := by have := hc2 0 _ rfl; simpa using this
                              subst hp hp2
                              have HX := Lib.hid hx; have HY := Lib.hid hy; clear hx hy hc hc2 hblW
                              have HA := Lib.hid hA; have HB := Lib.hid hB; clear hA hB
                              by_cases huv : x = y
                              · obtain rfl := huv
                                go_wp2_with fail
                                go_quiet (fail)
                                go_wp2_with fail
                                go_roundw
                                case rel =>
                                  refine ⟨k + 1, by omega, by go_num, below_drewN hbl _, HA.out, HB.out, ?_⟩
                                  unfold Hid
                                  exact take_step HX.out HY.out rfl hno.out
                                case measure => simp [intOf]; omega
                              · have hfin := HNE.out (fun e => by
                                    exact map_ne (c := txC) HX.out HY.out (fun h => huv (by cases x; cases y; simp [txC, Array.toList_inj] at h; simp [h])) (congrArg StC.texts e))
                                have HF := Lib.hid hfin; clear hfin
                                have hz1 : (!x.toList == y.toList) = true := by simp only [ByteArray.toList_eq, Bool.not_eq_true', beq_eq_false_iff_ne]; exact fun h => huv (by cases x; cases y; simpa [Array.toList_inj] using h)
                                have HUV := Lib.hid huv; clear huv
                                go_wp2_with fail
                                go_quiet (fail)
                                go_wp2_with fail
                                go_ret
                                exact ⟨ret_bool HF.out.symm, below_drewN hbl _⟩
                            · obtain rfl : k = l3.length := by omega
                              have hfull := hno.out
                              rw [List.take_length, HG3.out, List.take_length] at hfull
                              have F3 := Lib.hid hfull; clear hfull hno hlt hk
                              have uc0 := id (show wr.cell? ⟨S, 2, none⟩ = some (.slice p3 l3.length c3) from hA.cell 2)
                              have uc1 := id (show wr.cell? ⟨S, 3, none⟩ = some (.slice p4 l4.length c4) from hA.cell 3)
                              go_wp2_with fail
                              clear uc0 uc1
                              obtain ⟨wo, rfl⟩ : ∃ wo : World, wo = wr := ⟨_, rfl⟩
                              go_loopw [10] (fun s5 wr => ∃ k : Nat, k ≤ l4.length ∧ s5 = .int .i64 k ∧ Below S W wr ∧ Blk wr S #[.slice p1 l1.length c1, .slice p2 l2.length c2, .slice p3 l3.length c3, .slice p4 l4.length c4, .slice p5 l5.length c5, .slice p6 l6.length c6, .int .i64 asked, .int .i64 steps] 29 ∧ Blk wr (S + 1) #[.slice q1 m1.length d1, .slice q2 m2.length d2, .slice q3 m3.length d3, .slice q4 m4.length d4, .slice q5 m5.length d5, .slice q6 m6.length d6, .int .i64 asked', .int .i64 steps'] 29 ∧ Hid ((l4.take k).map Th.c = (m4.take k).map Th.c)) (fun s5 _ => l4.length - (intOf s5).toNat)
                              case atStart => exact ⟨0, Nat.zero_le _, rfl, hbl, hA, hB, by simp [Hid]⟩
                              clear hbl hA hB
                              case round =>
                                obtain ⟨k, hk, rfl, hbl, hA, hB, hno⟩ := hrel
                                by_cases hlt : k < l4.length
                                · skip
                                  have hltm : k < m4.length := by have := HG4.out; omega
                                  have hblW : Below W.heap.size W wr := hbn ▸ hbl
                                  have hSr := RdTh.st _ _ _ s4 hblW
                                  have hTr := RdTh.st _ _ _ t4 hblW
                                  obtain ⟨b, off, hp, hb, hc⟩ := hSr.at_ (fun _ => rfl) (by omega) hlt default
                                  obtain ⟨b2, off2, hp2, hb2, hc2⟩ := hTr.at_ (fun _ => rfl) (by omega) hltm default
                                  dsimp only at hp hp2
                                  have hx : l4[k]? = some (l4.getD k default) := by simp [hlt]
                                  have hy : m4[k]? = some (m4.getD k default) := by simp [hltm]
                                  have hxo := hSr.each (l4.getD k default) (by simp [hlt])
                                  have hyo := hTr.each (m4.getD k default) (by simp [hltm])
                                  generalize l4.getD k default = x at *
                                  generalize m4.getD k default = y at *
                                  obtain ⟨⟨xp, xc, xl⟩, x1, x2, x3, x4⟩ := x
                                  obtain ⟨⟨yp, yc, yl⟩, y1, y2, y3, y4⟩ := y
                                  have hc0_ : wr.cell? ⟨b, off + k * 5, none⟩ = some (.slice xp xl.length xc) := hc 0 _ rfl
                                  have hd0_ : wr.cell? ⟨b2, off2 + k * 5, none⟩ = some (.slice yp yl.length yc) := hc2 0 _ rfl
                                  have hc1_ : wr.cell? ⟨b, off + k * 5 + 1, none⟩ = some (.int .i64 x1) := hc 1 _ rfl
                                  have hd1_ : wr.cell? ⟨b2, off2 + k * 5 + 1, none⟩ = some (.int .i64 y1) := hc2 1 _ rfl
                                  have hc2_ : wr.cell? ⟨b, off + k * 5 + 2, none⟩ = some (.int .i64 x2) := hc 2 _ rfl
                                  have hd2_ : wr.cell? ⟨b2, off2 + k * 5 + 2, none⟩ = some (.int .i64 y2) := hc2 2 _ rfl
                                  have hc3_ : wr.cell? ⟨b, off + k * 5 + 3, none⟩ = some (.int .i64 x3) := hc 3 _ rfl
                                  have hd3_ : wr.cell? ⟨b2, off2 + k * 5 + 3, none⟩ = some (.int .i64 y3) := hc2 3 _ rfl
                                  have hc4_ : wr.cell? ⟨b, off + k * 5 + 4, none⟩ = some (.int .i64 x4) := hc 4 _ rfl
                                  have hd4_ : wr.cell? ⟨b2, off2 + k * 5 + 4, none⟩ = some (.int .i64 y4) := hc2 4 _ rfl
                                  have uc0 := id (show wr.cell? ⟨S, 3, none⟩ = some (.slice p4 l4.length c4) from hA.cell 3)
                                  have uc1 := id (show wr.cell? ⟨S + 1, 3, none⟩ = some (.slice q4 m4.length d4) from hB.cell 3)
                                  have ur0 := cell_regrown uc0; have ur1 := cell_regrown uc1
                                  subst hp hp2
                                  have HX := Lib.hid hx; have HY := Lib.hid hy; clear hx hy hc hc2 hSr hTr
                                  have r0 := cell_regrown hc0_; have e0 := cell_regrown hd0_
                                  have r1 := cell_regrown hc1_; have e1 := cell_regrown hd1_
                                  have r2 := cell_regrown hc2_; have e2 := cell_regrown hd2_
                                  have r3 := cell_regrown hc3_; have e3 := cell_regrown hd3_
                                  have r4 := cell_regrown hc4_; have e4 := cell_regrown hd4_
                                  clear hc0_ hd0_ hc1_ hd1_ hc2_ hd2_ hc3_ hd3_ hc4_ hd4_
                                  go_wp2_with fail
                                  refine wp_region_plan (fun w' => ∃ p : Regrown, w' = grow (redrawn wr p.d) p.os) (.two [0, 1, 2, 3, 4, 5, 6, 7, 8, 9] 10 (.one [] 11 (.one [] 12 (.one [] 13 (.last [])))) 11 (.one [] 10 (.one [] 12 (.one [] 13 (.last []))))) rfl (by kernel_rfl) (by kernel_rfl) (by kernel_rfl) (regrown_of_below ((Below.refl _ _).drew)) ?_
                                  change wpPlan _ _ _ _ _ _ wr.drew
                                  refine wpPlan_two fun K K' hK hK' => ?_
                                  have HK := Lib.hid hK; have HK' := Lib.hid hK'; clear hK hK'
                                  simp only [pick, List.getD_cons_succ, List.getD_cons_zero]
                                  iterate 10 (go_big_quiet_step (fail))
                                  refine wpQuiet_nil ?_
                                  clear r0 e0 r1 e1 r2 e2 r3 e3 r4 e4 ur0 ur1
                                  have hbd := (Below.refl wr.heap.size wr).drew
                                  generalize wr.drew = wd at *
                                  constructor
                                  case' left =>
                                    clear HK' K'
                                    have a1 := hbd.alloc hbd.size (.cells #[.slice none 0 0, .int .i64 0, .int .i64 0, .int .i64 0, .int .i64 0] 65)
                                    have hX := Blk.mk2 wd #[.slice none 0 0, .int .i64 0, .int .i64 0, .int .i64 0, .int .i64 0] 65
                                    go_wp2_with fail
                                    refine ⟨regrown_of_below a1, HK.out _ _ ?_⟩
                                    clear HK K
                                    have hge1 : wr.heap.size ≤ wd.heap.size := hbd.size
                                    have hlt1 : wd.heap.size < (wd.alloc (.cells #[.slice none 0 0, .int .i64 0, .int .i64 0, .int .i64 0, .int .i64 0] 65)).heap.size := by simp
                                    generalize hbn1 : wd.heap.size = BX at *
                                    generalize wd.alloc (.cells #[.slice none 0 0, .int .i64 0, .int .i64 0, .int .i64 0, .int .i64 0] 65) = we at *
                                    refine wpPlan_one fun K hK => ?_
                                    have HK := Lib.hid hK; clear hK
                                    simp only [pick, List.getD_cons_succ, List.getD_cons_zero]
                                    refine wpQuiet_nil ?_
                                    have a2 := a1.alloc a1.size (.cells #[.slice none 0 0, .int .i64 0, .int .i64 0, .int .i64 0, .int .i64 0] 65)
                                    have hY := Blk.mk2 we #[.slice none 0 0, .int .i64 0, .int .i64 0, .int .i64 0, .int .i64 0] 65
                                    replace hX := hX.alloc (.cells #[.slice none 0 0, .int .i64 0, .int .i64 0, .int .i64 0, .int .i64 0] 65)
                                    go_wp2_with fail
                                    refine ⟨regrown_of_below a2, HK.out _ _ ?_⟩
                                    clear HK K a1
                                    generalize hbn2 : we.heap.size = BY at *
                                    generalize we.alloc (.cells #[.slice none 0 0, .int .i64 0, .int .i64 0, .int .i64 0, .int .i64 0] 65) = wf at *
                                    refine wpPlan_one fun K hK => ?_
                                    have HK := Lib.hid hK; clear hK
                                    simp only [pick, List.getD_cons_succ, List.getD_cons_zero]
                                    refine wpQuiet_nil ?_
                                    have q0 : wf.cell? ⟨BX, 0, none⟩ = some (.slice none 0 0) := hX.cell 0
                                    have f0 := hX.frozen 0
                                    have q1 : wf.cell? ⟨BX, 1, none⟩ = some (.int .i64 0) := hX.cell 1
                                    have f1 := hX.frozen 1
                                    have q2 : wf.cell? ⟨BX, 2, none⟩ = some (.int .i64 0) := hX.cell 2
                                    have f2 := hX.frozen 2
                                    have q3 : wf.cell? ⟨BX, 3, none⟩ = some (.int .i64 0) := hX.cell 3
                                    have f3 := hX.frozen 3
                                    have q4 : wf.cell? ⟨BX, 4, none⟩ = some (.int .i64 0) := hX.cell 4
                                    have f4 := hX.frozen 4
                                    go_wp2_with fail
                                    have a3 : Below wr.heap.size wr (((((wf.setCell ⟨BX, 0, none⟩ (.slice xp xl.length xc)).setCell ⟨BX, 1, none⟩ (.int .i64 x1)).setCell ⟨BX, 2, none⟩ (.int .i64 x2)).setCell ⟨BX, 3, none⟩ (.int .i64 x3)).setCell ⟨BX, 4, none⟩ (.int .i64 x4)) := (((((a2.setCell (p := ⟨BX, 0, none⟩) (by show wr.heap.size ≤ BX; omega) (.slice xp xl.length xc)).setCell (p := ⟨BX, 1, none⟩) (by show wr.heap.size ≤ BX; omega) (.int .i64 x1)).setCell (p := ⟨BX, 2, none⟩) (by show wr.heap.size ≤ BX; omega) (.int .i64 x2)).setCell (p := ⟨BX, 3, none⟩) (by show wr.heap.size ≤ BX; omega) (.int .i64 x3)).setCell (p := ⟨BX, 4, none⟩) (by show wr.heap.size ≤ BX; omega) (.int .i64 x4))
                                    have hX' : Blk (((((wf.setCell ⟨BX, 0, none⟩ (.slice xp xl.length xc)).setCell ⟨BX, 1, none⟩ (.int .i64 x1)).setCell ⟨BX, 2, none⟩ (.int .i64 x2)).setCell ⟨BX, 3, none⟩ (.int .i64 x3)).setCell ⟨BX, 4, none⟩ (.int .i64 x4)) BX #[.slice xp xl.length xc, .int .i64 x1, .int .i64 x2, .int .i64 x3, .int .i64 x4] 65 := (((((hX.setL 0 (.slice xp xl.length xc)).setL 1 (.int .i64 x1)).setL 2 (.int .i64 x2)).setL 3 (.int .i64 x3)).setL 4 (.int .i64 x4))
                                    have hY' := (((((hY.other (C := BX) (k := 0) (.slice xp xl.length xc) (by omega)).other (C := BX) (k := 1) (.int .i64 x1) (by omega)).other (C := BX) (k := 2) (.int .i64 x2) (by omega)).other (C := BX) (k := 3) (.int .i64 x3) (by omega)).other (C := BX) (k := 4) (.int .i64 x4) (by omega))
                                    refine ⟨regrown_of_below a3, HK.out _ _ ?_⟩
                                    clear HK K q0 f0 q1 f1 q2 f2 q3 f3 q4 f4 hX hY a2
                                    generalize (((((wf.setCell ⟨BX, 0, none⟩ (.slice xp xl.length xc)).setCell ⟨BX, 1, none⟩ (.int .i64 x1)).setCell ⟨BX, 2, none⟩ (.int .i64 x2)).setCell ⟨BX, 3, none⟩ (.int .i64 x3)).setCell ⟨BX, 4, none⟩ (.int .i64 x4)) = wg at *
                                    have a2 := a3; have hX := hX'; have hY := hY'; clear a3 hX' hY'
                                    refine wpPlan_one fun K hK => ?_
                                    have HK := Lib.hid hK; clear hK
                                    simp only [pick, List.getD_cons_succ, List.getD_cons_zero]
                                    refine wpQuiet_nil ?_
                                    have q0 : wg.cell? ⟨BY, 0, none⟩ = some (.slice none 0 0) := hY.cell 0
                                    have f0 := hY.frozen 0
                                    have q1 : wg.cell? ⟨BY, 1, none⟩ = some (.int .i64 0) := hY.cell 1
                                    have f1 := hY.frozen 1
                                    have q2 : wg.cell? ⟨BY, 2, none⟩ = some (.int .i64 0) := hY.cell 2
                                    have f2 := hY.frozen 2
                                    have q3 : wg.cell? ⟨BY, 3, none⟩ = some (.int .i64 0) := hY.cell 3
                                    have f3 := hY.frozen 3
                                    have q4 : wg.cell? ⟨BY, 4, none⟩ = some (.int .i64 0) := hY.cell 4
                                    have f4 := hY.frozen 4
                                    go_wp2_with fail
                                    have a3 : Below wr.heap.size wr (((((wg.setCell ⟨BY, 0, none⟩ (.slice yp yl.length yc)).setCell ⟨BY, 1, none⟩ (.int .i64 y1)).setCell ⟨BY, 2, none⟩ (.int .i64 y2)).setCell ⟨BY, 3, none⟩ (.int .i64 y3)).setCell ⟨BY, 4, none⟩ (.int .i64 y4)) := (((((a2.setCell (p := ⟨BY, 0, none⟩) (by show wr.heap.size ≤ BY; omega) (.slice yp yl.length yc)).setCell (p := ⟨BY, 1, none⟩) (by show wr.heap.size ≤ BY; omega) (.int .i64 y1)).setCell (p := ⟨BY, 2, none⟩) (by show wr.heap.size ≤ BY; omega) (.int .i64 y2)).setCell (p := ⟨BY, 3, none⟩) (by show wr.heap.size ≤ BY; omega) (.int .i64 y3)).setCell (p := ⟨BY, 4, none⟩) (by show wr.heap.size ≤ BY; omega) (.int .i64 y4))
                                    have hY' : Blk (((((wg.setCell ⟨BY, 0, none⟩ (.slice yp yl.length yc)).setCell ⟨BY, 1, none⟩ (.int .i64 y1)).setCell ⟨BY, 2, none⟩ (.int .i64 y2)).setCell ⟨BY, 3, none⟩ (.int .i64 y3)).setCell ⟨BY, 4, none⟩ (.int .i64 y4)) BY #[.slice yp yl.length yc, .int .i64 y1, .int .i64 y2, .int .i64 y3, .int .i64 y4] 65 := (((((hY.setL 0 (.slice yp yl.length yc)).setL 1 (.int .i64 y1)).setL 2 (.int .i64 y2)).setL 3 (.int .i64 y3)).setL 4 (.int .i64 y4))
                                    have hX' := (((((hX.other (C := BY) (k := 0) (.slice yp yl.length yc) (by omega)).other (C := BY) (k := 1) (.int .i64 y1) (by omega)).other (C := BY) (k := 2) (.int .i64 y2) (by omega)).other (C := BY) (k := 3) (.int .i64 y3) (by omega)).other (C := BY) (k := 4) (.int .i64 y4) (by omega))
                                    refine ⟨regrown_of_below a3, HK.out _ _ ?_⟩
                                    clear HK K q0 f0 q1 f1 q2 f2 q3 f3 q4 f4 hY hX a2
                                    generalize (((((wg.setCell ⟨BY, 0, none⟩ (.slice yp yl.length yc)).setCell ⟨BY, 1, none⟩ (.int .i64 y1)).setCell ⟨BY, 2, none⟩ (.int .i64 y2)).setCell ⟨BY, 3, none⟩ (.int .i64 y3)).setCell ⟨BY, 4, none⟩ (.int .i64 y4)) = wh at *
                                    have a2 := a3; have hY := hY'; have hX := hX'; clear a3 hY' hX'
                                    refine wpPlan_last ?_
                                    simp only [pick]
                                    refine wpQuiet_nil ?_
                                    refine NoPanic.normal ?_
                                  case' right =>
                                    clear HK K
                                    have a1 := hbd.alloc hbd.size (.cells #[.slice none 0 0, .int .i64 0, .int .i64 0, .int .i64 0, .int .i64 0] 65)
                                    have hY := Blk.mk2 wd #[.slice none 0 0, .int .i64 0, .int .i64 0, .int .i64 0, .int .i64 0] 65
                                    go_wp2_with fail
                                    refine ⟨regrown_of_below a1, HK'.out _ _ ?_⟩
                                    clear HK' K'
                                    have hge1 : wr.heap.size ≤ wd.heap.size := hbd.size
                                    have hlt1 : wd.heap.size < (wd.alloc (.cells #[.slice none 0 0, .int .i64 0, .int .i64 0, .int .i64 0, .int .i64 0] 65)).heap.size := by simp
                                    generalize hbn1 : wd.heap.size = BY at *
                                    generalize wd.alloc (.cells #[.slice none 0 0, .int .i64 0, .int .i64 0, .int .i64 0, .int .i64 0] 65) = we at *
                                    refine wpPlan_one fun K hK => ?_
                                    have HK := Lib.hid hK; clear hK
                                    simp only [pick, List.getD_cons_succ, List.getD_cons_zero]
                                    refine wpQuiet_nil ?_
                                    have a2 := a1.alloc a1.size (.cells #[.slice none 0 0, .int .i64 0, .int .i64 0, .int .i64 0, .int .i64 0] 65)
                                    have hX := Blk.mk2 we #[.slice none 0 0, .int .i64 0, .int .i64 0, .int .i64 0, .int .i64 0] 65
                                    replace hY := hY.alloc (.cells #[.slice none 0 0, .int .i64 0, .int .i64 0, .int .i64 0, .int .i64 0] 65)
                                    go_wp2_with fail
                                    refine ⟨regrown_of_below a2, HK.out _ _ ?_⟩
                                    clear HK K a1
                                    generalize hbn2 : we.heap.size = BX at *
                                    generalize we.alloc (.cells #[.slice none 0 0, .int .i64 0, .int .i64 0, .int .i64 0, .int .i64 0] 65) = wf at *
                                    refine wpPlan_one fun K hK => ?_
                                    have HK := Lib.hid hK; clear hK
                                    simp only [pick, List.getD_cons_succ, List.getD_cons_zero]
                                    refine wpQuiet_nil ?_
                                    have q0 : wf.cell? ⟨BX, 0, none⟩ = some (.slice none 0 0) := hX.cell 0
                                    have f0 := hX.frozen 0
                                    have q1 : wf.cell? ⟨BX, 1, none⟩ = some (.int .i64 0) := hX.cell 1
                                    have f1 := hX.frozen 1
                                    have q2 : wf.cell? ⟨BX, 2, none⟩ = some (.int .i64 0) := hX.cell 2
                                    have f2 := hX.frozen 2
                                    have q3 : wf.cell? ⟨BX, 3, none⟩ = some (.int .i64 0) := hX.cell 3
                                    have f3 := hX.frozen 3
                                    have q4 : wf.cell? ⟨BX, 4, none⟩ = some (.int .i64 0) := hX.cell 4
                                    have f4 := hX.frozen 4
                                    go_wp2_with fail
                                    have a3 : Below wr.heap.size wr (((((wf.setCell ⟨BX, 0, none⟩ (.slice xp xl.length xc)).setCell ⟨BX, 1, none⟩ (.int .i64 x1)).setCell ⟨BX, 2, none⟩ (.int .i64 x2)).setCell ⟨BX, 3, none⟩ (.int .i64 x3)).setCell ⟨BX, 4, none⟩ (.int .i64 x4)) := (((((a2.setCell (p := ⟨BX, 0, none⟩) (by show wr.heap.size ≤ BX; omega) (.slice xp xl.length xc)).setCell (p := ⟨BX, 1, none⟩) (by show wr.heap.size ≤ BX; omega) (.int .i64 x1)).setCell (p := ⟨BX, 2, none⟩) (by show wr.heap.size ≤ BX; omega) (.int .i64 x2)).setCell (p := ⟨BX, 3, none⟩) (by show wr.heap.size ≤ BX; omega) (.int .i64 x3)).setCell (p := ⟨BX, 4, none⟩) (by show wr.heap.size ≤ BX; omega) (.int .i64 x4))
                                    have hX' : Blk (((((wf.setCell ⟨BX, 0, none⟩ (.slice xp xl.length xc)).setCell ⟨BX, 1, none⟩ (.int .i64 x1)).setCell ⟨BX, 2, none⟩ (.int .i64 x2)).setCell ⟨BX, 3, none⟩ (.int .i64 x3)).setCell ⟨BX, 4, none⟩ (.int .i64 x4)) BX #[.slice xp xl.length xc, .int .i64 x1, .int .i64 x2, .int .i64 x3, .int .i64 x4] 65 := (((((hX.setL 0 (.slice xp xl.length xc)).setL 1 (.int .i64 x1)).setL 2 (.int .i64 x2)).setL 3 (.int .i64 x3)).setL 4 (.int .i64 x4))
                                    have hY' := (((((hY.other (C := BX) (k := 0) (.slice xp xl.length xc) (by omega)).other (C := BX) (k := 1) (.int .i64 x1) (by omega)).other (C := BX) (k := 2) (.int .i64 x2) (by omega)).other (C := BX) (k := 3) (.int .i64 x3) (by omega)).other (C := BX) (k := 4) (.int .i64 x4) (by omega))
                                    refine ⟨regrown_of_below a3, HK.out _ _ ?_⟩
                                    clear HK K q0 f0 q1 f1 q2 f2 q3 f3 q4 f4 hX hY a2
                                    generalize (((((wf.setCell ⟨BX, 0, none⟩ (.slice xp xl.length xc)).setCell ⟨BX, 1, none⟩ (.int .i64 x1)).setCell ⟨BX, 2, none⟩ (.int .i64 x2)).setCell ⟨BX, 3, none⟩ (.int .i64 x3)).setCell ⟨BX, 4, none⟩ (.int .i64 x4)) = wg at *
                                    have a2 := a3; have hX := hX'; have hY := hY'; clear a3 hX' hY'
                                    refine wpPlan_one fun K hK => ?_
                                    have HK := Lib.hid hK; clear hK
                                    simp only [pick, List.getD_cons_succ, List.getD_cons_zero]
                                    refine wpQuiet_nil ?_
                                    have q0 : wg.cell? ⟨BY, 0, none⟩ = some (.slice none 0 0) := hY.cell 0
                                    have f0 := hY.frozen 0
                                    have q1 : wg.cell? ⟨BY, 1, none⟩ = some (.int .i64 0) := hY.cell 1
                                    have f1 := hY.frozen 1
                                    have q2 : wg.cell? ⟨BY, 2, none⟩ = some (.int .i64 0) := hY.cell 2
                                    have f2 := hY.frozen 2
                                    have q3 : wg.cell? ⟨BY, 3, none⟩ = some (.int .i64 0) := hY.cell 3
                                    have f3 := hY.frozen 3
                                    have q4 : wg.cell? ⟨BY, 4, none⟩ = some (.int .i64 0) := hY.cell 4
                                    have f4 := hY.frozen 4
                                    go_wp2_with fail
                                    have a3 : Below wr.heap.size wr (((((wg.setCell ⟨BY, 0, none⟩ (.slice yp yl.length yc)).setCell ⟨BY, 1, none⟩ (.int .i64 y1)).setCell ⟨BY, 2, none⟩ (.int .i64 y2)).setCell ⟨BY, 3, none⟩ (.int .i64 y3)).setCell ⟨BY, 4, none⟩ (.int .i64 y4)) := (((((a2.setCell (p := ⟨BY, 0, none⟩) (by show wr.heap.size ≤ BY; omega) (.slice yp yl.length yc)).setCell (p := ⟨BY, 1, none⟩) (by show wr.heap.size ≤ BY; omega) (.int .i64 y1)).setCell (p := ⟨BY, 2, none⟩) (by show wr.heap.size ≤ BY; omega) (.int .i64 y2)).setCell (p := ⟨BY, 3, none⟩) (by show wr.heap.size ≤ BY; omega) (.int .i64 y3)).setCell (p := ⟨BY, 4, none⟩) (by show wr.heap.size ≤ BY; omega) (.int .i64 y4))
                                    have hY' : Blk (((((wg.setCell ⟨BY, 0, none⟩ (.slice yp yl.length yc)).setCell ⟨BY, 1, none⟩ (.int .i64 y1)).setCell ⟨BY, 2, none⟩ (.int .i64 y2)).setCell ⟨BY, 3, none⟩ (.int .i64 y3)).setCell ⟨BY, 4, none⟩ (.int .i64 y4)) BY #[.slice yp yl.length yc, .int .i64 y1, .int .i64 y2, .int .i64 y3, .int .i64 y4] 65 := (((((hY.setL 0 (.slice yp yl.length yc)).setL 1 (.int .i64 y1)).setL 2 (.int .i64 y2)).setL 3 (.int .i64 y3)).setL 4 (.int .i64 y4))
                                    have hX' := (((((hX.other (C := BY) (k := 0) (.slice yp yl.length yc) (by omega)).other (C := BY) (k := 1) (.int .i64 y1) (by omega)).other (C := BY) (k := 2) (.int .i64 y2) (by omega)).other (C := BY) (k := 3) (.int .i64 y3) (by omega)).other (C := BY) (k := 4) (.int .i64 y4) (by omega))
                                    refine ⟨regrown_of_below a3, HK.out _ _ ?_⟩
                                    clear HK K q0 f0 q1 f1 q2 f2 q3 f3 q4 f4 hY hX a2
                                    generalize (((((wg.setCell ⟨BY, 0, none⟩ (.slice yp yl.length yc)).setCell ⟨BY, 1, none⟩ (.int .i64 y1)).setCell ⟨BY, 2, none⟩ (.int .i64 y2)).setCell ⟨BY, 3, none⟩ (.int .i64 y3)).setCell ⟨BY, 4, none⟩ (.int .i64 y4)) = wh at *
                                    have a2 := a3; have hY := hY'; have hX := hX'; clear a3 hY' hX'
                                    refine wpPlan_last ?_
                                    simp only [pick]
                                    refine wpQuiet_nil ?_
                                    refine NoPanic.normal ?_
                                  all_goals
                                    have hbf := hbl.trans (a2.mono (hbn ▸ hbl.size))
                                    have hA2 := hA.next a2; have hB2 := hB.next a2
                                    have X0 : wh.cell? ⟨BX, 0, none⟩ = some (.slice xp xl.length xc) := Blk.cell (show Blk wh BX _ _ from hX) 0
                                    have Y0 : wh.cell? ⟨BY, 0, none⟩ = some (.slice yp yl.length yc) := Blk.cell (show Blk wh BY _ _ from hY) 0
                                    have X1 : wh.cell? ⟨BX, 1, none⟩ = some (.int .i64 x1) := Blk.cell (show Blk wh BX _ _ from hX) 1
                                    have Y1 : wh.cell? ⟨BY, 1, none⟩ = some (.int .i64 y1) := Blk.cell (show Blk wh BY _ _ from hY) 1
                                    have X2 : wh.cell? ⟨BX, 2, none⟩ = some (.int .i64 x2) := Blk.cell (show Blk wh BX _ _ from hX) 2
                                    have Y2 : wh.cell? ⟨BY, 2, none⟩ = some (.int .i64 y2) := Blk.cell (show Blk wh BY _ _ from hY) 2
                                    have X3 : wh.cell? ⟨BX, 3, none⟩ = some (.int .i64 x3) := Blk.cell (show Blk wh BX _ _ from hX) 3
                                    have Y3 : wh.cell? ⟨BY, 3, none⟩ = some (.int .i64 y3) := Blk.cell (show Blk wh BY _ _ from hY) 3
                                    have X4 : wh.cell? ⟨BX, 4, none⟩ = some (.int .i64 x4) := Blk.cell (show Blk wh BX _ _ from hX) 4
                                    have Y4 : wh.cell? ⟨BY, 4, none⟩ = some (.int .i64 y4) := Blk.cell (show Blk wh BY _ _ from hY) 4
                                    have xo1 : RdFr wr ⟨xp, xc, xl⟩ := hxo
                                    have yo1 : RdFr wr ⟨yp, yc, yl⟩ := hyo
                                    clear hxo hyo
                                    have sf := sameFrames_any (s := ⟨xp, xc, xl⟩) (t := ⟨yp, yc, yl⟩) (RdFr.st _ _ _ xo1 a2) (RdFr.st _ _ _ yo1 a2)
                                    dsimp only [Sv.val] at sf
                                    have HSF := Lib.hid sf; clear sf
                                    have hne := fun h => HNE.out (fun e => map_ne (c := Th.c) HX.out HY.out h (congrArg StC.threads e))
                                    have heq := fun h => take_step (c := Th.c) HX.out HY.out h hno.out
                                    have HNX := Lib.hid hne; have HEQ := Lib.hid heq; clear hne heq hX hY hno xo1 yo1 HX HY
                                    clear hbd hbn1 hbn2 hge1 hlt1 hb hb2 hA hB
                                    rcases (Classical.em (x1 = y1)).symm with f1 | f1
                                    · have kk1 : (x1 != y1) = true := by simpa using f1
                                      go_wp2_with fail
                                      go_ret
                                      exact ⟨ret_bool (HNX.out (fun e => by simp [Th.c] at e; exact f1 (by simp [e]))).symm, hbf⟩
                                    · subst f1
                                      rcases (Classical.em (x2 = y2)).symm with f2 | f2
                                      · have kk2 : (x2 != y2) = true := by simpa using f2
                                        go_wp2_with fail
                                        go_ret
                                        exact ⟨ret_bool (HNX.out (fun e => by simp [Th.c] at e; exact f2 (by simp [e]))).symm, hbf⟩
                                      · subst f2
                                        rcases (Classical.em (x3 = y3)).symm with f3 | f3
                                        · have kk3 : (x3 == y3) = false := by simpa using f3
                                          go_wp2_with fail
                                          go_ret
                                          exact ⟨ret_bool (HNX.out (fun e => by simp [Th.c] at e; exact f3 (by simp [e]))).symm, hbf⟩
                                        · subst f3
                                          rcases (Classical.em (x4 = y4)).symm with f4 | f4
                                          · have kk4 : (x4 == y4) = false := by simpa using f4
                                            go_wp2_with fail
                                            go_ret
                                            exact ⟨ret_bool (HNX.out (fun e => by simp [Th.c] at e; exact f4 (by simp [e]))).symm, hbf⟩
                                          · subst f4
                                            rcases (Classical.em (xl.map Fr.c = yl.map Fr.c)).symm with fc | fc
                                            · have hsv := HSF.out
                                              rw [decide_eq_false fc] at hsv
                                              have HS2 := Lib.hid hsv; clear hsv HSF
                                              go_wp2_with fail
                                              refine HS2.out.mono ?_
                                              rintro _ wv ⟨rfl, hbv⟩
                                              have hbf2 := hbf.trans (hbv.mono (hbn ▸ hbf.size))
                                              go_wp2_with fail
                                              go_ret
                                              exact ⟨ret_bool (HNX.out (fun e => by simp [Th.c] at e; exact fc (by simp [e]))).symm, hbf2⟩
                                            · have hsv := HSF.out
                                              rw [decide_eq_true fc] at hsv
                                              have HS2 := Lib.hid hsv; have FCwz := Lib.hid fc; clear hsv fc HSF
                                              go_wp2_with fail
                                              refine HS2.out.mono ?_
                                              rintro _ wz ⟨rfl, hwz⟩
                                              have hbf4 := hbf.trans (hwz.mono (hbn ▸ hbf.size))
                                              clear HS2
                                              have hA4 := hA2.next hwz; have hB4 := hB2.next hwz; clear hA2 hB2
                                              have hfin := HEQ.out (by simp [Th.c, FCwz.out])
                                              have HF := Lib.hid hfin; clear hfin
                                              go_wp2_with fail
                                              go_roundw
                                              case rel => exact ⟨k + 1, by omega, by go_num, hbf4, hA4, hB4, HF.out⟩
                                              case measure => simp [intOf]; omega
                                · obtain rfl : k = l4.length := by omega
                                  have hfull := hno.out
                                  rw [List.take_length, HG4.out, List.take_length] at hfull
                                  have F4 := Lib.hid hfull; clear hfull hno hlt hk
                                  have uc0 := id (show wr.cell? ⟨S, 3, none⟩ = some (.slice p4 l4.length c4) from hA.cell 3)
                                  have uc1 := id (show wr.cell? ⟨S, 4, none⟩ = some (.slice p5 l5.length c5) from hA.cell 4)
                                  go_wp2_with fail
                                  clear uc0 uc1
                                  obtain ⟨wo, rfl⟩ : ∃ wo : World, wo = wr := ⟨_, rfl⟩
                                  go_loopw [13] (fun s5 wr => ∃ k : Nat, k ≤ l5.length ∧ s5 = .int .i64 k ∧ Below S W wr ∧ Blk wr S #[.slice p1 l1.length c1, .slice p2 l2.length c2, .slice p3 l3.length c3, .slice p4 l4.length c4, .slice p5 l5.length c5, .slice p6 l6.length c6, .int .i64 asked, .int .i64 steps] 29 ∧ Blk wr (S + 1) #[.slice q1 m1.length d1, .slice q2 m2.length d2, .slice q3 m3.length d3, .slice q4 m4.length d4, .slice q5 m5.length d5, .slice q6 m6.length d6, .int .i64 asked', .int .i64 steps'] 29 ∧ Hid (l5.take k = m5.take k)) (fun s5 _ => l5.length - (intOf s5).toNat)
                                  case atStart => exact ⟨0, Nat.zero_le _, rfl, hbl, hA, hB, by simp [Hid]⟩
                                  clear hbl hA hB
                                  case round =>
                                    obtain ⟨k, hk, rfl, hbl, hA, hB, hno⟩ := hrel
                                    by_cases hlt : k < l5.length
                                    · skip
                                      have hltm : k < m5.length := by have := HG5.out; omega
                                      have hblW : Below W.heap.size W wr := hbn ▸ hbl
                                      obtain ⟨b, off, hp, hb, hc⟩ := (RdEn.st _ _ _ s5 hblW).at_ (fun _ => rfl) (by omega) hlt default
                                      obtain ⟨b2, off2, hp2, hb2, hc2⟩ := (RdEn.st _ _ _ t5 hblW).at_ (fun _ => rfl) (by omega) hltm default
                                      dsimp only at hp hp2
                                      have hx : l5[k]? = some (l5.getD k default) := by simp [hlt]
                                      have hy : m5[k]? = some (m5.getD k default) := by simp [hltm]
                                      generalize l5.getD k default = x at *
                                      generalize m5.getD k default = y at *
                                      have uc0 := id (show wr.cell? ⟨S, 4, none⟩ = some (.slice p5 l5.length c5) from hA.cell 4)
                                      have uc1 := id (show wr.cell? ⟨S + 1, 4, none⟩ = some (.slice q5 m5.length d5) from hB.cell 4)
                                      obtain ⟨xc, xk, xn⟩ := x
                                      obtain ⟨yc, yk, yn⟩ := y
                                      have hc0_ : wr.cell? ⟨b, off + k * 3, none⟩ = some (.int .i64 xc) := hc 0 _ rfl
                                      have hd0_ : wr.cell? ⟨b2, off2 + k * 3, none⟩ = some (.int .i64 yc) := hc2 0 _ rfl
                                      have hc1_ : wr.cell? ⟨b, off + k * 3 + 1, none⟩ = some (.int .i64 xk) := hc 1 _ rfl
                                      have hd1_ : wr.cell? ⟨b2, off2 + k * 3 + 1, none⟩ = some (.int .i64 yk) := hc2 1 _ rfl
                                      have hc2_ : wr.cell? ⟨b, off + k * 3 + 2, none⟩ = some (.int .i64 xn) := hc 2 _ rfl
                                      have hd2_ : wr.cell? ⟨b2, off2 + k * 3 + 2, none⟩ = some (.int .i64 yn) := hc2 2 _ rfl
                                      subst hp hp2
                                      have HX := Lib.hid hx; have HY := Lib.hid hy; clear hx hy hc hc2 hblW
                                      have HA := Lib.hid hA; have HB := Lib.hid hB; clear hA hB
                                      by_cases huv : xc = yc ∧ xk = yk ∧ xn = yn
                                      · obtain ⟨rfl, rfl, rfl⟩ := huv
                                        go_wp2_with fail
                                        go_quiet (fail)
                                        go_wp2_with fail
                                        go_roundw
                                        case rel =>
                                          refine ⟨k + 1, by omega, by go_num, below_drewN hbl _, HA.out, HB.out, ?_⟩
                                          unfold Hid
                                          rw [List.take_add_one, List.take_add_one, HX.out, HY.out, hno.out]
                                        case measure => simp [intOf]; omega
                                      · have hfin := HNE.out (fun e => by
                                            have e2 := congrArg StC.ends e
                                            simp [St.c] at e2
                                            have h1 := HX.out.symm.trans ((congrArg (·[k]?) e2).trans HY.out)
                                            simp at h1
                                            exact huv (by simpa using h1))
                                        have HF := Lib.hid hfin; clear hfin
                                        cases h01 : (xc == yc) with
                                        | false =>
                                          clear huv
                                          go_wp2_with fail
                                          go_quiet (fail)
                                          go_wp2_with fail
                                          go_ret
                                          exact ⟨ret_bool HF.out.symm, below_drewN hbl _⟩
                                        | true =>
                                          cases h11 : (xk == yk) with
                                          | false =>
                                            clear huv
                                            go_wp2_with fail
                                            go_quiet (fail)
                                            go_wp2_with fail
                                            go_ret
                                            exact ⟨ret_bool HF.out.symm, below_drewN hbl _⟩
                                          | true =>
                                            have hz1 : (xn == yn) = false := by
                                              simpa using fun h4 => huv ⟨by simpa using h01, by simpa using h11, h4⟩
                                            clear huv
                                            go_wp2_with fail
                                            go_quiet (fail)
                                            go_wp2_with fail
                                            go_ret
                                            exact ⟨ret_bool HF.out.symm, below_drewN hbl _⟩
                                    · obtain rfl : k = l5.length := by omega
                                      have hfull := hno.out
                                      rw [List.take_length, HG5.out, List.take_length] at hfull
                                      have F5 := Lib.hid hfull; clear hfull hno hlt hk
                                      have uc0 := id (show wr.cell? ⟨S, 4, none⟩ = some (.slice p5 l5.length c5) from hA.cell 4)
                                      go_wp2_with fail
                                      go_ret
                                      exact ⟨ret_bool (decide_eq_true (by simp only [St.c, F1.out, F2.out, F3.out, F4.out, F5.out, G6.out, G7.out, G8.out])).symm, hbl⟩
end Go.Proofs.Ythdleldnjoamlaa
