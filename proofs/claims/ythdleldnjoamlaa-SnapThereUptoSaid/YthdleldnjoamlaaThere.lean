/-
  The walk of SnapThere (sameState's contract handed in).
-/
import Derived.Test.YthdleldnjoamlaaBegun
import Derived.Test.YthdleldnjoamlaaPlan
import Derived.Test.YthdleldnjoamlaaFast
namespace Go.Proofs.Ythdleldnjoamlaa
open Go.RowKit Go.Sort

/-- What SameState answers. -/
def SameS : Prop := ∀ (W : World) (x y : St), St.ok W x → St.ok W y → Calls Try.prog 10 #[x.val, y.val] W fun r W' => r = .returned (.bool (decide (x.c = y.c))) ∧ Below W.heap.size W W'
set_option maxRecDepth 100000 in
set_option maxHeartbeats 4000000 in
theorem thereLaw_of (HSS : SameS) {w : World} {x y : St} (hx : St.ok w x) (hy : St.ok w y) (bx : (StC.e x.c).length ≤ 2000000) (by_ : (StC.e y.c).length ≤ 2000000) :
    Calls Try.prog 3 #[x.val, y.val] w fun e w' => e = .returned (.bool true) ∧ Below w.heap.size w w' := by
  have hb0 := ((Below.refl w.heap.size w).alloc (Nat.le_refl _) (.cells #[x.cells.val, x.shapes.val, x.texts.val, x.threads.val, x.ends.val, x.said.val, .int .i64 x.asked, .int .i64 x.steps] 29)).alloc (by simp) (.cells #[y.cells.val, y.shapes.val, y.texts.val, y.threads.val, y.ends.val, y.said.val, .int .i64 y.asked, .int .i64 y.steps] 29)
  have hA0 := (Blk.mk2 w #[x.cells.val, x.shapes.val, x.texts.val, x.threads.val, x.ends.val, x.said.val, .int .i64 x.asked, .int .i64 x.steps] 29).alloc (.cells #[y.cells.val, y.shapes.val, y.texts.val, y.threads.val, y.ends.val, y.said.val, .int .i64 y.asked, .int .i64 y.steps] 29)
  have hB0 : Blk ((w.alloc (.cells #[x.cells.val, x.shapes.val, x.texts.val, x.threads.val, x.ends.val, x.said.val, .int .i64 x.asked, .int .i64 x.steps] 29)).alloc (.cells #[y.cells.val, y.shapes.val, y.texts.val, y.threads.val, y.ends.val, y.said.val, .int .i64 y.asked, .int .i64 y.steps] 29)) (w.heap.size + 1) #[y.cells.val, y.shapes.val, y.texts.val, y.threads.val, y.ends.val, y.said.val, .int .i64 y.asked, .int .i64 y.steps] 29 := Blk.mk_ _ _ _ (by simp)
  have HSX := Lib.hid HSS; clear HSS
  have hinj : decide (StC.e x.c = StC.e y.c) = decide (x.c = y.c) := by
    by_cases h : x.c = y.c
    · rw [h]; simp
    · rw [decide_eq_false h, decide_eq_false fun e => h (StC.pf.inj e)]
  have HI := Lib.hid hinj; clear hinj
  have hxk := fun W (h : Below w.heap.size w W) => St.ok.st _ _ _ hx h
  have hyk := fun W (h : Below w.heap.size w W) => St.ok.st _ _ _ hy h
  have HXK := Lib.hid hxk; have HYK := Lib.hid hyk; clear hxk hyk hx hy
  generalize hbn : w.heap.size = S at *
  go_enter Try.func3, Try.ntmps3
  go_wp2_with fail
  refine (begun_any _).mono ?_
  rintro _ w1 ⟨rfl, hb⟩
  have hA1 := hA0.next hb; have hB1 := hB0.next hb
  have hb1 := hb0.trans (hb.mono (hbn ▸ hb0.size))
  clear hA0 hB0 hb hb0
  have r0 := cell_regrown (show w1.cell? ⟨S, 0, none⟩ = some (x.cells.val) from hA1.cell 0)
  have e0 := cell_regrown (show w1.cell? ⟨S + 1, 0, none⟩ = some (y.cells.val) from hB1.cell 0)
  have r1 := cell_regrown (show w1.cell? ⟨S, 1, none⟩ = some (x.shapes.val) from hA1.cell 1)
  have e1 := cell_regrown (show w1.cell? ⟨S + 1, 1, none⟩ = some (y.shapes.val) from hB1.cell 1)
  have r2 := cell_regrown (show w1.cell? ⟨S, 2, none⟩ = some (x.texts.val) from hA1.cell 2)
  have e2 := cell_regrown (show w1.cell? ⟨S + 1, 2, none⟩ = some (y.texts.val) from hB1.cell 2)
  have r3 := cell_regrown (show w1.cell? ⟨S, 3, none⟩ = some (x.threads.val) from hA1.cell 3)
  have e3 := cell_regrown (show w1.cell? ⟨S + 1, 3, none⟩ = some (y.threads.val) from hB1.cell 3)
  have r4 := cell_regrown (show w1.cell? ⟨S, 4, none⟩ = some (x.ends.val) from hA1.cell 4)
  have e4 := cell_regrown (show w1.cell? ⟨S + 1, 4, none⟩ = some (y.ends.val) from hB1.cell 4)
  have r5 := cell_regrown (show w1.cell? ⟨S, 5, none⟩ = some (x.said.val) from hA1.cell 5)
  have e5 := cell_regrown (show w1.cell? ⟨S + 1, 5, none⟩ = some (y.said.val) from hB1.cell 5)
  have r6 := cell_regrown (show w1.cell? ⟨S, 6, none⟩ = some (.int .i64 x.asked) from hA1.cell 6)
  have e6 := cell_regrown (show w1.cell? ⟨S + 1, 6, none⟩ = some (.int .i64 y.asked) from hB1.cell 6)
  have r7 := cell_regrown (show w1.cell? ⟨S, 7, none⟩ = some (.int .i64 x.steps) from hA1.cell 7)
  have e7 := cell_regrown (show w1.cell? ⟨S + 1, 7, none⟩ = some (.int .i64 y.steps) from hB1.cell 7)
  go_wp2_with fail
  refine wp_region_plan (fun w' => ∃ p : Regrown, w' = grow (redrawn w1 p.d) p.os) (.one [0, 2] 1 (.one [] 3 (.last [4, 5]))) rfl (by kernel_rfl) (by kernel_rfl) (by kernel_rfl) (regrown_of_below ((Below.refl _ _).drew)) ?_
  change wpPlan _ _ _ _ _ _ w1.drew
  refine wpPlan_one fun K hK => ?_
  have HK := Lib.hid hK; clear hK
  simp only [pick, List.getD_cons_succ, List.getD_cons_zero]
  iterate 2 (go_big_quiet_step (fail))
  refine wpQuiet_nil ?_
  clear r0 e0 r1 e1 r2 e2 r3 e3 r4 e4 r5 e5 r6 e6 r7 e7
  have hbd := (Below.refl w1.heap.size w1).drew
  generalize w1.drew = w2 at *
  have hb2 := hb1.trans (hbd.mono (hbn ▸ hb1.size))
  have hn := Flat_any x (HXK.out w2 hb2) (by omega)
  go_wp2_with fail
  refine hn.mono ?_
  rintro _ w3 ⟨p1, c1, rfl, ho1, hb⟩
  have hbd3 := hbd.trans (hb.mono hbd.size)
  clear hn hb hbd hb2
  go_wp2_with fail
  refine ⟨regrown_of_below hbd3, HK.out _ _ ?_⟩
  clear HK K
  refine wpPlan_one fun K hK => ?_
  have HK := Lib.hid hK; clear hK
  simp only [pick, List.getD_cons_succ, List.getD_cons_zero]
  refine wpQuiet_nil ?_
  have hb3 := hb1.trans (hbd3.mono (hbn ▸ hb1.size))
  have hn := Flat_any y (HYK.out w3 hb3) (by omega)
  go_wp2_with fail
  refine hn.mono ?_
  rintro _ w4 ⟨p2, c2, rfl, ho2, hb⟩
  have hbd4 := hbd3.trans (hb.mono hbd3.size)
  have hS1 := Sl.of_own (own_below ho1 hb)
  have hS2 := Sl.of_own ho2
  clear hn hb hbd3 hb3 ho1 ho2
  go_wp2_with fail
  refine ⟨regrown_of_below hbd4, HK.out _ _ ?_⟩
  clear HK K
  refine wpPlan_last ?_
  simp only [pick, List.getD_cons_succ, List.getD_cons_zero]
  repeat (go_big_quiet_step (fail))
  refine wpQuiet_nil ?_
  refine NoPanic.normal ?_
  have hA4 := hA1.next hbd4; have hB4 := hB1.next hbd4
  have hb4 := hb1.trans (hbd4.mono (hbn ▸ hb1.size))
  clear hA1 hB1 hbd4 hb1
  have hn := Back_any hS1 x.c rfl (by omega)
  go_wp2_with fail
  refine hn.mono ?_
  rintro _ w5 ⟨u, rfl, huc, huok, hb⟩
  have hA5 := hA4.next hb; have hB5 := hB4.next hb; have hS15 := hS1.below hb; have hS25 := hS2.below hb
  have hb5 := hb4.trans (hb.mono (hbn ▸ hb4.size))
  clear hn hA4 hB4 hS1 hS2 hb4 hb
  have hal := (Below.refl w5.heap.size w5).alloc (Nat.le_refl _) (.cells #[u.cells.val, u.shapes.val, u.texts.val, u.threads.val, u.ends.val, u.said.val, .int .i64 u.asked, .int .i64 u.steps] 29)
  have hU6 := Blk.mk2 w5 #[u.cells.val, u.shapes.val, u.texts.val, u.threads.val, u.ends.val, u.said.val, .int .i64 u.asked, .int .i64 u.steps] 29
  have hA6 := hA5.next hal; have hB6 := hB5.next hal; have hS16 := hS15.below hal; have hS26 := hS25.below hal
  have hb6 := hb5.trans (hal.mono (hbn ▸ hb5.size))
  have huok6 := St.ok.st _ _ _ huok hal
  have hn := Back_any hS26 y.c rfl (by omega)
  clear hA5 hB5 hS15 hS25 hb5 hal huok
  go_wp2_with fail
  generalize hbu : w5.heap.size = BU at *
  generalize w5.alloc (.cells #[u.cells.val, u.shapes.val, u.texts.val, u.threads.val, u.ends.val, u.said.val, .int .i64 u.asked, .int .i64 u.steps] 29) = w6 at *
  refine hn.mono ?_
  rintro _ w7 ⟨v, rfl, hvc, hvok, hb⟩
  have hA7 := hA6.next hb; have hB7 := hB6.next hb; have hS17 := hS16.below hb; have hS27 := hS26.below hb; have hU7 := hU6.next hb
  have hb7 := hb6.trans (hb.mono (hbn ▸ hb6.size))
  have huok7 := St.ok.st _ _ _ huok6 hb
  clear hn hA6 hB6 hS16 hS26 hb6 hb huok6 hU6
  have hal := (Below.refl w7.heap.size w7).alloc (Nat.le_refl _) (.cells #[v.cells.val, v.shapes.val, v.texts.val, v.threads.val, v.ends.val, v.said.val, .int .i64 v.asked, .int .i64 v.steps] 29)
  have hV8 := Blk.mk2 w7 #[v.cells.val, v.shapes.val, v.texts.val, v.threads.val, v.ends.val, v.said.val, .int .i64 v.asked, .int .i64 v.steps] 29
  have hA8 := hA7.next hal; have hB8 := hB7.next hal; have hS18 := hS17.below hal; have hS28 := hS27.below hal; have hU8 := hU7.next hal
  have hb8 := hb7.trans (hal.mono (hbn ▸ hb7.size))
  have huok8 := St.ok.st _ _ _ huok7 hal
  have hvok8 := St.ok.st _ _ _ hvok hal
  have hn := Flat_any u huok8 (by rw [huc]; omega)
  rw [huc] at hn
  clear hA7 hB7 hS17 hS27 hb7 hal huok7 hvok
  have k0 := fun o => cell_more (W := w7) o (show w7.cell? ⟨BU, 0, none⟩ = some (u.cells.val) from hU7.cell 0)
  have k1 := fun o => cell_more (W := w7) o (show w7.cell? ⟨BU, 1, none⟩ = some (u.shapes.val) from hU7.cell 1)
  have k2 := fun o => cell_more (W := w7) o (show w7.cell? ⟨BU, 2, none⟩ = some (u.texts.val) from hU7.cell 2)
  have k3 := fun o => cell_more (W := w7) o (show w7.cell? ⟨BU, 3, none⟩ = some (u.threads.val) from hU7.cell 3)
  have k4 := fun o => cell_more (W := w7) o (show w7.cell? ⟨BU, 4, none⟩ = some (u.ends.val) from hU7.cell 4)
  have k5 := fun o => cell_more (W := w7) o (show w7.cell? ⟨BU, 5, none⟩ = some (u.said.val) from hU7.cell 5)
  have k6 := fun o => cell_more (W := w7) o (show w7.cell? ⟨BU, 6, none⟩ = some (.int .i64 u.asked) from hU7.cell 6)
  have k7 := fun o => cell_more (W := w7) o (show w7.cell? ⟨BU, 7, none⟩ = some (.int .i64 u.steps) from hU7.cell 7)
  clear hU7
  go_wp2_with fail
  generalize hbv : w7.heap.size = BV at *
  generalize w7.alloc (.cells #[v.cells.val, v.shapes.val, v.texts.val, v.threads.val, v.ends.val, v.said.val, .int .i64 v.asked, .int .i64 v.steps] 29) = w8 at *
  refine hn.mono ?_
  rintro _ w9 ⟨p3, c3, rfl, ho3, hb⟩
  have hA9 := hA8.next hb; have hB9 := hB8.next hb; have hS19 := hS18.below hb; have hS29 := hS28.below hb; have hU9 := hU8.next hb; have hV9 := hV8.next hb
  have hb9 := hb8.trans (hb.mono (hbn ▸ hb8.size))
  have huok9 := St.ok.st _ _ _ huok8 hb
  have hvok9 := St.ok.st _ _ _ hvok8 hb
  have hn := sameI_is (Sl.of_own ho3) hS19 (b := true) (decide_eq_true rfl)
  clear hA8 hB8 hS18 hS28 hb8 hb huok8 hvok8 hU8 hV8 ho3
  go_wp2_with fail
  refine hn.mono ?_
  rintro _ w10 ⟨rfl, hb⟩
  have hA10 := hA9.next hb; have hB10 := hB9.next hb; have hS110 := hS19.below hb; have hS210 := hS29.below hb; have hU10 := hU9.next hb; have hV10 := hV9.next hb
  have hb10 := hb9.trans (hb.mono (hbn ▸ hb9.size))
  have huok10 := St.ok.st _ _ _ huok9 hb
  have hvok10 := St.ok.st _ _ _ hvok9 hb
  have hn := Flat_any v hvok10 (by rw [hvc]; omega)
  rw [hvc] at hn
  clear hA9 hB9 hS19 hS29 hb9 hb huok9 hvok9 hU9 hV9 k0 k1 k2 k3 k4 k5 k6 k7
  have k0 : w10.cell? ⟨BV, 0, none⟩ = some (v.cells.val) := hV10.cell 0
  have k1 : w10.cell? ⟨BV, 1, none⟩ = some (v.shapes.val) := hV10.cell 1
  have k2 : w10.cell? ⟨BV, 2, none⟩ = some (v.texts.val) := hV10.cell 2
  have k3 : w10.cell? ⟨BV, 3, none⟩ = some (v.threads.val) := hV10.cell 3
  have k4 : w10.cell? ⟨BV, 4, none⟩ = some (v.ends.val) := hV10.cell 4
  have k5 : w10.cell? ⟨BV, 5, none⟩ = some (v.said.val) := hV10.cell 5
  have k6 : w10.cell? ⟨BV, 6, none⟩ = some (.int .i64 v.asked) := hV10.cell 6
  have k7 : w10.cell? ⟨BV, 7, none⟩ = some (.int .i64 v.steps) := hV10.cell 7
  go_wp2_with fail
  refine hn.mono ?_
  rintro _ w11 ⟨p4, c4, rfl, ho4, hb⟩
  have hA11 := hA10.next hb; have hB11 := hB10.next hb; have hS111 := hS110.below hb; have hS211 := hS210.below hb; have hU11 := hU10.next hb; have hV11 := hV10.next hb
  have hb11 := hb10.trans (hb.mono (hbn ▸ hb10.size))
  have huok11 := St.ok.st _ _ _ huok10 hb
  have hvok11 := St.ok.st _ _ _ hvok10 hb
  have hn := sameI_is (Sl.of_own ho4) hS211 (b := true) (decide_eq_true rfl)
  clear hA10 hB10 hS110 hS210 hb10 hb huok10 hvok10 hU10 hV10 ho4 k0 k1 k2 k3 k4 k5 k6 k7
  go_wp2_with fail
  refine hn.mono ?_
  rintro _ w12 ⟨rfl, hb⟩
  have hA := hA11.next hb; have hB := hB11.next hb; have hS1 := hS111.below hb; have hS2 := hS211.below hb; have hU := hU11.next hb; have hV := hV11.next hb
  have hb12 := hb11.trans (hb.mono (hbn ▸ hb11.size))
  have huok := St.ok.st _ _ _ huok11 hb
  have hvok := St.ok.st _ _ _ hvok11 hb
  have hxok := HXK.out _ hb12; have hyok := HYK.out _ hb12
  clear hn hA11 hB11 hS111 hS211 hb11 hb huok11 hvok11 hU11 hV11
  have g1 := fun d os => Calls.regrown_of (d := d) (os := os) (HSX.out (grow (redrawn w12 d) os) u x (St.ok.st _ _ _ huok (below_regrown w12 d os)) (St.ok.st _ _ _ hxok (below_regrown w12 d os)))
  have g2 := fun d os => Calls.regrown_of (d := d) (os := os) (HSX.out (grow (redrawn w12 d) os) v y (St.ok.st _ _ _ hvok (below_regrown w12 d os)) (St.ok.st _ _ _ hyok (below_regrown w12 d os)))
  have g3 := fun d os => Calls.regrown_of (d := d) (os := os) (sameI_is (hS1.below (below_regrown w12 d os)) (hS2.below (below_regrown w12 d os)) (b := decide (StC.e x.c = StC.e y.c)) rfl)
  have g4 := fun d os => Calls.regrown_of (d := d) (os := os) (HSX.out (grow (redrawn w12 d) os) x y (St.ok.st _ _ _ hxok (below_regrown w12 d os)) (St.ok.st _ _ _ hyok (below_regrown w12 d os)))
  rw [HI.out] at g3
  rw [decide_eq_true huc] at g1
  rw [decide_eq_true hvc] at g2
  have G1 := Lib.hid g1; have G2 := Lib.hid g2; have G3 := Lib.hid g3; have G4 := Lib.hid g4; clear g1 g2 g3 g4
  have ra0 := cell_regrown (show w12.cell? ⟨S, 0, none⟩ = some (x.cells.val) from hA.cell 0)
  have ra1 := cell_regrown (show w12.cell? ⟨S, 1, none⟩ = some (x.shapes.val) from hA.cell 1)
  have ra2 := cell_regrown (show w12.cell? ⟨S, 2, none⟩ = some (x.texts.val) from hA.cell 2)
  have ra3 := cell_regrown (show w12.cell? ⟨S, 3, none⟩ = some (x.threads.val) from hA.cell 3)
  have ra4 := cell_regrown (show w12.cell? ⟨S, 4, none⟩ = some (x.ends.val) from hA.cell 4)
  have ra5 := cell_regrown (show w12.cell? ⟨S, 5, none⟩ = some (x.said.val) from hA.cell 5)
  have ra6 := cell_regrown (show w12.cell? ⟨S, 6, none⟩ = some (.int .i64 x.asked) from hA.cell 6)
  have ra7 := cell_regrown (show w12.cell? ⟨S, 7, none⟩ = some (.int .i64 x.steps) from hA.cell 7)
  have rb0 := cell_regrown (show w12.cell? ⟨S + 1, 0, none⟩ = some (y.cells.val) from hB.cell 0)
  have rb1 := cell_regrown (show w12.cell? ⟨S + 1, 1, none⟩ = some (y.shapes.val) from hB.cell 1)
  have rb2 := cell_regrown (show w12.cell? ⟨S + 1, 2, none⟩ = some (y.texts.val) from hB.cell 2)
  have rb3 := cell_regrown (show w12.cell? ⟨S + 1, 3, none⟩ = some (y.threads.val) from hB.cell 3)
  have rb4 := cell_regrown (show w12.cell? ⟨S + 1, 4, none⟩ = some (y.ends.val) from hB.cell 4)
  have rb5 := cell_regrown (show w12.cell? ⟨S + 1, 5, none⟩ = some (y.said.val) from hB.cell 5)
  have rb6 := cell_regrown (show w12.cell? ⟨S + 1, 6, none⟩ = some (.int .i64 y.asked) from hB.cell 6)
  have rb7 := cell_regrown (show w12.cell? ⟨S + 1, 7, none⟩ = some (.int .i64 y.steps) from hB.cell 7)
  have ru0 := cell_regrown (show w12.cell? ⟨BU, 0, none⟩ = some (u.cells.val) from hU.cell 0)
  have ru1 := cell_regrown (show w12.cell? ⟨BU, 1, none⟩ = some (u.shapes.val) from hU.cell 1)
  have ru2 := cell_regrown (show w12.cell? ⟨BU, 2, none⟩ = some (u.texts.val) from hU.cell 2)
  have ru3 := cell_regrown (show w12.cell? ⟨BU, 3, none⟩ = some (u.threads.val) from hU.cell 3)
  have ru4 := cell_regrown (show w12.cell? ⟨BU, 4, none⟩ = some (u.ends.val) from hU.cell 4)
  have ru5 := cell_regrown (show w12.cell? ⟨BU, 5, none⟩ = some (u.said.val) from hU.cell 5)
  have ru6 := cell_regrown (show w12.cell? ⟨BU, 6, none⟩ = some (.int .i64 u.asked) from hU.cell 6)
  have ru7 := cell_regrown (show w12.cell? ⟨BU, 7, none⟩ = some (.int .i64 u.steps) from hU.cell 7)
  have rv0 := cell_regrown (show w12.cell? ⟨BV, 0, none⟩ = some (v.cells.val) from hV.cell 0)
  have rv1 := cell_regrown (show w12.cell? ⟨BV, 1, none⟩ = some (v.shapes.val) from hV.cell 1)
  have rv2 := cell_regrown (show w12.cell? ⟨BV, 2, none⟩ = some (v.texts.val) from hV.cell 2)
  have rv3 := cell_regrown (show w12.cell? ⟨BV, 3, none⟩ = some (v.threads.val) from hV.cell 3)
  have rv4 := cell_regrown (show w12.cell? ⟨BV, 4, none⟩ = some (v.ends.val) from hV.cell 4)
  have rv5 := cell_regrown (show w12.cell? ⟨BV, 5, none⟩ = some (v.said.val) from hV.cell 5)
  have rv6 := cell_regrown (show w12.cell? ⟨BV, 6, none⟩ = some (.int .i64 v.asked) from hV.cell 6)
  have rv7 := cell_regrown (show w12.cell? ⟨BV, 7, none⟩ = some (.int .i64 v.steps) from hV.cell 7)
  clear hA hB hU hV
  generalize decide (x.c = y.c) = bb at *
  go_wp2_with fail
  refine quiet_below rfl (by kernel_rfl) (by kernel_rfl) ?_
  repeat (go_big_quiet_step (first | exact Calls.regrown_of (begun_any _) | (with_reducible exact G1.out _ _) | (with_reducible exact G2.out _ _) | (with_reducible exact G3.out _ _) | (with_reducible exact G4.out _ _)))
  refine wpQuiet_nil ?_
  intro wz hwz
  clear G1 G2 G3 G4
  go_wp2_with fail
  go_ret
  exact ⟨rfl, hb12.trans (hwz.mono (hbn ▸ hb12.size))⟩
end Go.Proofs.Ythdleldnjoamlaa
