/-
  Are two rows of frames one?
-/
import Derived.Test.YthdleldnjoamlaaSame2
import Derived.Test.YthdleldnjoamlaaRead
namespace Go.Proofs.Ythdleldnjoamlaa
open Go.RowKit Go.Sort

theorem map_ne {α γ : Type} {c : α → γ} {l m : List α} {k : Nat} {x y : α} (hx : l[k]? = some x) (hy : m[k]? = some y) (h : c x ≠ c y) : l.map c ≠ m.map c := fun e => by
  have := congrArg (·[k]?) e
  simp only [List.getElem?_map, hx, hy, Option.map_some, Option.some.injEq] at this
  exact h this
theorem take_step {α γ : Type} {c : α → γ} {l m : List α} {k : Nat} {x y : α} (hx : l[k]? = some x) (hy : m[k]? = some y) (h : c x = c y) (ht : (l.take k).map c = (m.take k).map c) : (l.take (k + 1)).map c = (m.take (k + 1)).map c := by
  rw [List.take_add_one, List.take_add_one, hx, hy, List.map_append, List.map_append, ht]
  simp [h]

set_option maxRecDepth 100000 in
set_option maxHeartbeats 4000000 in
theorem sameFrames_any {W : World} {s t : Sv Fr} (hS : RdFr W s) (hT : RdFr W t) :
    Calls Try.prog 40 #[s.val, t.val] W fun r W' => r = .returned (.bool (decide (s.l.map Fr.c = t.l.map Fr.c))) ∧ Below W.heap.size W W' := by
  obtain ⟨sp, sc, sl⟩ := s
  obtain ⟨tp, tc, tl⟩ := t
  have hm : sl.length ≤ 9223372036854775807 := Nat.le_trans hS.row.le hS.row.big
  have hm2 : tl.length ≤ 9223372036854775807 := Nat.le_trans hT.row.le hT.row.big
  dsimp only [Sv.val] at *
  by_cases hlen : sl.length = tl.length
  · have hlt0 : ((sl.length : Int) != (tl.length : Int)) = false := by simp [hlen]
    have HL := Lib.hid hlen; clear hlen
    go_enter Try.func40, Try.ntmps40
    go_wp2_with fail
    go_loopw [5] (fun s5 wr => ∃ k : Nat, k ≤ sl.length ∧ s5 = .int .i64 k ∧ Below W.heap.size W wr ∧ Hid ((sl.take k).map Fr.c = (tl.take k).map Fr.c)) (fun s5 _ => sl.length - (intOf s5).toNat)
    case atStart => exact ⟨0, Nat.zero_le _, rfl, Below.refl _ _, by simp [Hid]⟩
    case round =>
      obtain ⟨k, hk, rfl, hbl, hno⟩ := hrel
      by_cases hlt : k < sl.length
      · have hltm : k < tl.length := by have := HL.out; omega
        have hSr := RdFr.st _ _ _ hS hbl
        have hTr := RdFr.st _ _ _ hT hbl
        obtain ⟨b, off, hp, hb, hc⟩ := hSr.at_ (fun _ => rfl) (by omega) hlt default
        obtain ⟨b2, off2, hp2, hb2, hc2⟩ := hTr.at_ (fun _ => rfl) (by omega) hltm default
        dsimp only at hp hp2
        have hx : sl[k]? = some (sl.getD k default) := by simp [hlt]
        have hy : tl[k]? = some (tl.getD k default) := by simp [hltm]
        have hxo := hSr.each (sl.getD k default) (by simp [hlt])
        have hyo := hTr.each (tl.getD k default) (by simp [hltm])
        generalize sl.getD k default = x at *
        generalize tl.getD k default = y at *
        obtain ⟨x1, x2, x3, x4, x5, x6, ⟨xp, xc, xl⟩, ⟨xq, xd, xm⟩⟩ := x
        obtain ⟨y1, y2, y3, y4, y5, y6, ⟨yp, yc, yl⟩, ⟨yq, yd, ym⟩⟩ := y
        obtain ⟨xo1, xo2⟩ := hxo
        obtain ⟨yo1, yo2⟩ := hyo
        dsimp only at xo1 xo2 yo1 yo2
        have hc0 : wr.cell? ⟨b, off + k * 8, none⟩ = some (.int .i64 x1) := hc 0 _ rfl
        have hc1 : wr.cell? ⟨b, off + k * 8 + 1, none⟩ = some (.int .i64 x2) := hc 1 _ rfl
        have hc2' : wr.cell? ⟨b, off + k * 8 + 2, none⟩ = some (.int .i64 x3) := hc 2 _ rfl
        have hc3 : wr.cell? ⟨b, off + k * 8 + 3, none⟩ = some (.int .i64 x4) := hc 3 _ rfl
        have hc4 : wr.cell? ⟨b, off + k * 8 + 4, none⟩ = some (.int .i64 x5) := hc 4 _ rfl
        have hc5 : wr.cell? ⟨b, off + k * 8 + 5, none⟩ = some (.int .i64 x6) := hc 5 _ rfl
        have hc6 : wr.cell? ⟨b, off + k * 8 + 6, none⟩ = some (.slice xp xl.length xc) := hc 6 _ rfl
        have hc7 : wr.cell? ⟨b, off + k * 8 + 7, none⟩ = some (.slice xq xm.length xd) := hc 7 _ rfl
        have hd0 : wr.cell? ⟨b2, off2 + k * 8, none⟩ = some (.int .i64 y1) := hc2 0 _ rfl
        have hd1 : wr.cell? ⟨b2, off2 + k * 8 + 1, none⟩ = some (.int .i64 y2) := hc2 1 _ rfl
        have hd2 : wr.cell? ⟨b2, off2 + k * 8 + 2, none⟩ = some (.int .i64 y3) := hc2 2 _ rfl
        have hd3 : wr.cell? ⟨b2, off2 + k * 8 + 3, none⟩ = some (.int .i64 y4) := hc2 3 _ rfl
        have hd4 : wr.cell? ⟨b2, off2 + k * 8 + 4, none⟩ = some (.int .i64 y5) := hc2 4 _ rfl
        have hd5 : wr.cell? ⟨b2, off2 + k * 8 + 5, none⟩ = some (.int .i64 y6) := hc2 5 _ rfl
        have hd6 : wr.cell? ⟨b2, off2 + k * 8 + 6, none⟩ = some (.slice yp yl.length yc) := hc2 6 _ rfl
        have hd7 : wr.cell? ⟨b2, off2 + k * 8 + 7, none⟩ = some (.slice yq ym.length yd) := hc2 7 _ rfl
        subst hp hp2
        have HX := Lib.hid hx; have HY := Lib.hid hy; have HSS := Lib.hid hS; have HTT := Lib.hid hT; clear hx hy hc hc2 hS hT hSr hTr
        have r0 := cell_regrown hc0; have r1 := cell_regrown hc1; have r2 := cell_regrown hc2'; have r3 := cell_regrown hc3; have r4 := cell_regrown hc4; have r5 := cell_regrown hc5; have r6 := cell_regrown hc6; have r7 := cell_regrown hc7
        have e0 := cell_regrown hd0; have e1 := cell_regrown hd1; have e2 := cell_regrown hd2; have e3 := cell_regrown hd3; have e4 := cell_regrown hd4; have e5 := cell_regrown hd5; have e6 := cell_regrown hd6; have e7 := cell_regrown hd7
        clear hc0 hc1 hc2' hc3 hc4 hc5 hc6 hc7 hd0 hd1 hd2 hd3 hd4 hd5 hd6 hd7
        go_wp2_with fail
        refine wp_region_plan (fun w' => ∃ p : Regrown, w' = grow (redrawn wr p.d) p.os) (.two [0, 1, 2, 3, 4, 5, 6, 7] 8 (.one [] 9 (.one [] 10 (.one [] 11 (.last [])))) 9 (.one [] 8 (.one [] 10 (.one [] 11 (.last []))))) rfl (by kernel_rfl) (by kernel_rfl) (by kernel_rfl) (regrown_of_below ((Below.refl _ _).drew)) ?_
        change wpPlan _ _ _ _ _ _ wr.drew
        refine wpPlan_two fun K K' hK hK' => ?_
        have HK := Lib.hid hK; have HK' := Lib.hid hK'; clear hK hK'
        simp only [pick, List.getD_cons_succ, List.getD_cons_zero]
        iterate 8 (go_big_quiet_step (fail))
        refine wpQuiet_nil ?_
        clear r0 r1 r2 r3 r4 r5 r6 r7 e0 e1 e2 e3 e4 e5 e6 e7
        have hbd := (Below.refl wr.heap.size wr).drew
        generalize wr.drew = wd at *
        constructor
        case' left =>
          clear HK' K'
          have a1 := hbd.alloc hbd.size (.cells #[.int .i64 0, .int .i64 0, .int .i64 0, .int .i64 0, .int .i64 0, .int .i64 0, .slice none 0 0, .slice none 0 0] 94)
          have hX := Blk.mk2 wd #[.int .i64 0, .int .i64 0, .int .i64 0, .int .i64 0, .int .i64 0, .int .i64 0, .slice none 0 0, .slice none 0 0] 94
          go_wp2_with fail
          refine ⟨regrown_of_below a1, HK.out _ _ ?_⟩
          clear HK K
          have hge1 : wr.heap.size ≤ wd.heap.size := hbd.size
          have hlt1 : wd.heap.size < (wd.alloc (.cells #[.int .i64 0, .int .i64 0, .int .i64 0, .int .i64 0, .int .i64 0, .int .i64 0, .slice none 0 0, .slice none 0 0] 94)).heap.size := by simp
          generalize hbn1 : wd.heap.size = BX at *
          generalize wd.alloc (.cells #[.int .i64 0, .int .i64 0, .int .i64 0, .int .i64 0, .int .i64 0, .int .i64 0, .slice none 0 0, .slice none 0 0] 94) = we at *
          refine wpPlan_one fun K hK => ?_
          have HK := Lib.hid hK; clear hK
          simp only [pick, List.getD_cons_succ, List.getD_cons_zero]
          refine wpQuiet_nil ?_
          have a2 := a1.alloc a1.size (.cells #[.int .i64 0, .int .i64 0, .int .i64 0, .int .i64 0, .int .i64 0, .int .i64 0, .slice none 0 0, .slice none 0 0] 94)
          have hY := Blk.mk2 we #[.int .i64 0, .int .i64 0, .int .i64 0, .int .i64 0, .int .i64 0, .int .i64 0, .slice none 0 0, .slice none 0 0] 94
          replace hX := hX.alloc (.cells #[.int .i64 0, .int .i64 0, .int .i64 0, .int .i64 0, .int .i64 0, .int .i64 0, .slice none 0 0, .slice none 0 0] 94)
          go_wp2_with fail
          refine ⟨regrown_of_below a2, HK.out _ _ ?_⟩
          clear HK K a1
          generalize hbn2 : we.heap.size = BY at *
          generalize we.alloc (.cells #[.int .i64 0, .int .i64 0, .int .i64 0, .int .i64 0, .int .i64 0, .int .i64 0, .slice none 0 0, .slice none 0 0] 94) = wf at *
          refine wpPlan_one fun K hK => ?_
          have HK := Lib.hid hK; clear hK
          simp only [pick, List.getD_cons_succ, List.getD_cons_zero]
          refine wpQuiet_nil ?_
          have q0 : wf.cell? ⟨BX, 0, none⟩ = some (.int .i64 0) := hX.cell 0
          have f0 := hX.frozen 0
          have q1 : wf.cell? ⟨BX, 1, none⟩ = some (.int .i64 0) := hX.cell 1
          have f1 := hX.frozen 1
          have q2 : wf.cell? ⟨BX, 2, none⟩ = some (.int .i64 0) := hX.cell 2
          have f2 := hX.frozen 2
          have q3 : wf.cell? ⟨BX, 3, none⟩ = some (.int .i64 0) := hX.cell 3
          have f3 := hX.frozen 3
          have q4 : wf.cell? ⟨BX, 4, none⟩ = some (.int .i64 0) := hX.cell 4
          have f4 := hX.frozen 4
          have q5 : wf.cell? ⟨BX, 5, none⟩ = some (.int .i64 0) := hX.cell 5
          have f5 := hX.frozen 5
          have q6 : wf.cell? ⟨BX, 6, none⟩ = some (.slice none 0 0) := hX.cell 6
          have f6 := hX.frozen 6
          have q7 : wf.cell? ⟨BX, 7, none⟩ = some (.slice none 0 0) := hX.cell 7
          have f7 := hX.frozen 7
          go_wp2_with fail
          have a3 : Below wr.heap.size wr ((((((((wf.setCell ⟨BX, 0, none⟩ (.int .i64 x1)).setCell ⟨BX, 1, none⟩ (.int .i64 x2)).setCell ⟨BX, 2, none⟩ (.int .i64 x3)).setCell ⟨BX, 3, none⟩ (.int .i64 x4)).setCell ⟨BX, 4, none⟩ (.int .i64 x5)).setCell ⟨BX, 5, none⟩ (.int .i64 x6)).setCell ⟨BX, 6, none⟩ (.slice xp xl.length xc)).setCell ⟨BX, 7, none⟩ (.slice xq xm.length xd)) := ((((((((a2.setCell (p := ⟨BX, 0, none⟩) (by show wr.heap.size ≤ BX; omega) (.int .i64 x1)).setCell (p := ⟨BX, 1, none⟩) (by show wr.heap.size ≤ BX; omega) (.int .i64 x2)).setCell (p := ⟨BX, 2, none⟩) (by show wr.heap.size ≤ BX; omega) (.int .i64 x3)).setCell (p := ⟨BX, 3, none⟩) (by show wr.heap.size ≤ BX; omega) (.int .i64 x4)).setCell (p := ⟨BX, 4, none⟩) (by show wr.heap.size ≤ BX; omega) (.int .i64 x5)).setCell (p := ⟨BX, 5, none⟩) (by show wr.heap.size ≤ BX; omega) (.int .i64 x6)).setCell (p := ⟨BX, 6, none⟩) (by show wr.heap.size ≤ BX; omega) (.slice xp xl.length xc)).setCell (p := ⟨BX, 7, none⟩) (by show wr.heap.size ≤ BX; omega) (.slice xq xm.length xd))
          have hX' : Blk ((((((((wf.setCell ⟨BX, 0, none⟩ (.int .i64 x1)).setCell ⟨BX, 1, none⟩ (.int .i64 x2)).setCell ⟨BX, 2, none⟩ (.int .i64 x3)).setCell ⟨BX, 3, none⟩ (.int .i64 x4)).setCell ⟨BX, 4, none⟩ (.int .i64 x5)).setCell ⟨BX, 5, none⟩ (.int .i64 x6)).setCell ⟨BX, 6, none⟩ (.slice xp xl.length xc)).setCell ⟨BX, 7, none⟩ (.slice xq xm.length xd)) BX #[.int .i64 x1, .int .i64 x2, .int .i64 x3, .int .i64 x4, .int .i64 x5, .int .i64 x6, .slice xp xl.length xc, .slice xq xm.length xd] 94 := ((((((((hX.setL 0 (.int .i64 x1)).setL 1 (.int .i64 x2)).setL 2 (.int .i64 x3)).setL 3 (.int .i64 x4)).setL 4 (.int .i64 x5)).setL 5 (.int .i64 x6)).setL 6 (.slice xp xl.length xc)).setL 7 (.slice xq xm.length xd))
          have hY' := ((((((((hY.other (C := BX) (k := 0) (.int .i64 x1) (by omega)).other (C := BX) (k := 1) (.int .i64 x2) (by omega)).other (C := BX) (k := 2) (.int .i64 x3) (by omega)).other (C := BX) (k := 3) (.int .i64 x4) (by omega)).other (C := BX) (k := 4) (.int .i64 x5) (by omega)).other (C := BX) (k := 5) (.int .i64 x6) (by omega)).other (C := BX) (k := 6) (.slice xp xl.length xc) (by omega)).other (C := BX) (k := 7) (.slice xq xm.length xd) (by omega))
          refine ⟨regrown_of_below a3, HK.out _ _ ?_⟩
          clear HK K q0 f0 q1 f1 q2 f2 q3 f3 q4 f4 q5 f5 q6 f6 q7 f7 hX hY a2
          generalize ((((((((wf.setCell ⟨BX, 0, none⟩ (.int .i64 x1)).setCell ⟨BX, 1, none⟩ (.int .i64 x2)).setCell ⟨BX, 2, none⟩ (.int .i64 x3)).setCell ⟨BX, 3, none⟩ (.int .i64 x4)).setCell ⟨BX, 4, none⟩ (.int .i64 x5)).setCell ⟨BX, 5, none⟩ (.int .i64 x6)).setCell ⟨BX, 6, none⟩ (.slice xp xl.length xc)).setCell ⟨BX, 7, none⟩ (.slice xq xm.length xd)) = wg at *
          have a2 := a3; have hX := hX'; have hY := hY'; clear a3 hX' hY'
          refine wpPlan_one fun K hK => ?_
          have HK := Lib.hid hK; clear hK
          simp only [pick, List.getD_cons_succ, List.getD_cons_zero]
          refine wpQuiet_nil ?_
          have q0 : wg.cell? ⟨BY, 0, none⟩ = some (.int .i64 0) := hY.cell 0
          have f0 := hY.frozen 0
          have q1 : wg.cell? ⟨BY, 1, none⟩ = some (.int .i64 0) := hY.cell 1
          have f1 := hY.frozen 1
          have q2 : wg.cell? ⟨BY, 2, none⟩ = some (.int .i64 0) := hY.cell 2
          have f2 := hY.frozen 2
          have q3 : wg.cell? ⟨BY, 3, none⟩ = some (.int .i64 0) := hY.cell 3
          have f3 := hY.frozen 3
          have q4 : wg.cell? ⟨BY, 4, none⟩ = some (.int .i64 0) := hY.cell 4
          have f4 := hY.frozen 4
          have q5 : wg.cell? ⟨BY, 5, none⟩ = some (.int .i64 0) := hY.cell 5
          have f5 := hY.frozen 5
          have q6 : wg.cell? ⟨BY, 6, none⟩ = some (.slice none 0 0) := hY.cell 6
          have f6 := hY.frozen 6
          have q7 : wg.cell? ⟨BY, 7, none⟩ = some (.slice none 0 0) := hY.cell 7
          have f7 := hY.frozen 7
          go_wp2_with fail
          have a3 : Below wr.heap.size wr ((((((((wg.setCell ⟨BY, 0, none⟩ (.int .i64 y1)).setCell ⟨BY, 1, none⟩ (.int .i64 y2)).setCell ⟨BY, 2, none⟩ (.int .i64 y3)).setCell ⟨BY, 3, none⟩ (.int .i64 y4)).setCell ⟨BY, 4, none⟩ (.int .i64 y5)).setCell ⟨BY, 5, none⟩ (.int .i64 y6)).setCell ⟨BY, 6, none⟩ (.slice yp yl.length yc)).setCell ⟨BY, 7, none⟩ (.slice yq ym.length yd)) := ((((((((a2.setCell (p := ⟨BY, 0, none⟩) (by show wr.heap.size ≤ BY; omega) (.int .i64 y1)).setCell (p := ⟨BY, 1, none⟩) (by show wr.heap.size ≤ BY; omega) (.int .i64 y2)).setCell (p := ⟨BY, 2, none⟩) (by show wr.heap.size ≤ BY; omega) (.int .i64 y3)).setCell (p := ⟨BY, 3, none⟩) (by show wr.heap.size ≤ BY; omega) (.int .i64 y4)).setCell (p := ⟨BY, 4, none⟩) (by show wr.heap.size ≤ BY; omega) (.int .i64 y5)).setCell (p := ⟨BY, 5, none⟩) (by show wr.heap.size ≤ BY; omega) (.int .i64 y6)).setCell (p := ⟨BY, 6, none⟩) (by show wr.heap.size ≤ BY; omega) (.slice yp yl.length yc)).setCell (p := ⟨BY, 7, none⟩) (by show wr.heap.size ≤ BY; omega) (.slice yq ym.length yd))
          have hY' : Blk ((((((((wg.setCell ⟨BY, 0, none⟩ (.int .i64 y1)).setCell ⟨BY, 1, none⟩ (.int .i64 y2)).setCell ⟨BY, 2, none⟩ (.int .i64 y3)).setCell ⟨BY, 3, none⟩ (.int .i64 y4)).setCell ⟨BY, 4, none⟩ (.int .i64 y5)).setCell ⟨BY, 5, none⟩ (.int .i64 y6)).setCell ⟨BY, 6, none⟩ (.slice yp yl.length yc)).setCell ⟨BY, 7, none⟩ (.slice yq ym.length yd)) BY #[.int .i64 y1, .int .i64 y2, .int .i64 y3, .int .i64 y4, .int .i64 y5, .int .i64 y6, .slice yp yl.length yc, .slice yq ym.length yd] 94 := ((((((((hY.setL 0 (.int .i64 y1)).setL 1 (.int .i64 y2)).setL 2 (.int .i64 y3)).setL 3 (.int .i64 y4)).setL 4 (.int .i64 y5)).setL 5 (.int .i64 y6)).setL 6 (.slice yp yl.length yc)).setL 7 (.slice yq ym.length yd))
          have hX' := ((((((((hX.other (C := BY) (k := 0) (.int .i64 y1) (by omega)).other (C := BY) (k := 1) (.int .i64 y2) (by omega)).other (C := BY) (k := 2) (.int .i64 y3) (by omega)).other (C := BY) (k := 3) (.int .i64 y4) (by omega)).other (C := BY) (k := 4) (.int .i64 y5) (by omega)).other (C := BY) (k := 5) (.int .i64 y6) (by omega)).other (C := BY) (k := 6) (.slice yp yl.length yc) (by omega)).other (C := BY) (k := 7) (.slice yq ym.length yd) (by omega))
          refine ⟨regrown_of_below a3, HK.out _ _ ?_⟩
          clear HK K q0 f0 q1 f1 q2 f2 q3 f3 q4 f4 q5 f5 q6 f6 q7 f7 hY hX a2
          generalize ((((((((wg.setCell ⟨BY, 0, none⟩ (.int .i64 y1)).setCell ⟨BY, 1, none⟩ (.int .i64 y2)).setCell ⟨BY, 2, none⟩ (.int .i64 y3)).setCell ⟨BY, 3, none⟩ (.int .i64 y4)).setCell ⟨BY, 4, none⟩ (.int .i64 y5)).setCell ⟨BY, 5, none⟩ (.int .i64 y6)).setCell ⟨BY, 6, none⟩ (.slice yp yl.length yc)).setCell ⟨BY, 7, none⟩ (.slice yq ym.length yd)) = wh at *
          have a2 := a3; have hY := hY'; have hX := hX'; clear a3 hY' hX'
          refine wpPlan_last ?_
          simp only [pick]
          refine wpQuiet_nil ?_
          refine NoPanic.normal ?_
        case' right =>
          clear HK K
          have a1 := hbd.alloc hbd.size (.cells #[.int .i64 0, .int .i64 0, .int .i64 0, .int .i64 0, .int .i64 0, .int .i64 0, .slice none 0 0, .slice none 0 0] 94)
          have hY := Blk.mk2 wd #[.int .i64 0, .int .i64 0, .int .i64 0, .int .i64 0, .int .i64 0, .int .i64 0, .slice none 0 0, .slice none 0 0] 94
          go_wp2_with fail
          refine ⟨regrown_of_below a1, HK'.out _ _ ?_⟩
          clear HK' K'
          have hge1 : wr.heap.size ≤ wd.heap.size := hbd.size
          have hlt1 : wd.heap.size < (wd.alloc (.cells #[.int .i64 0, .int .i64 0, .int .i64 0, .int .i64 0, .int .i64 0, .int .i64 0, .slice none 0 0, .slice none 0 0] 94)).heap.size := by simp
          generalize hbn1 : wd.heap.size = BY at *
          generalize wd.alloc (.cells #[.int .i64 0, .int .i64 0, .int .i64 0, .int .i64 0, .int .i64 0, .int .i64 0, .slice none 0 0, .slice none 0 0] 94) = we at *
          refine wpPlan_one fun K hK => ?_
          have HK := Lib.hid hK; clear hK
          simp only [pick, List.getD_cons_succ, List.getD_cons_zero]
          refine wpQuiet_nil ?_
          have a2 := a1.alloc a1.size (.cells #[.int .i64 0, .int .i64 0, .int .i64 0, .int .i64 0, .int .i64 0, .int .i64 0, .slice none 0 0, .slice none 0 0] 94)
          have hX := Blk.mk2 we #[.int .i64 0, .int .i64 0, .int .i64 0, .int .i64 0, .int .i64 0, .int .i64 0, .slice none 0 0, .slice none 0 0] 94
          replace hY := hY.alloc (.cells #[.int .i64 0, .int .i64 0, .int .i64 0, .int .i64 0, .int .i64 0, .int .i64 0, .slice none 0 0, .slice none 0 0] 94)
          go_wp2_with fail
          refine ⟨regrown_of_below a2, HK.out _ _ ?_⟩
          clear HK K a1
          generalize hbn2 : we.heap.size = BX at *
          generalize we.alloc (.cells #[.int .i64 0, .int .i64 0, .int .i64 0, .int .i64 0, .int .i64 0, .int .i64 0, .slice none 0 0, .slice none 0 0] 94) = wf at *
          refine wpPlan_one fun K hK => ?_
          have HK := Lib.hid hK; clear hK
          simp only [pick, List.getD_cons_succ, List.getD_cons_zero]
          refine wpQuiet_nil ?_
          have q0 : wf.cell? ⟨BX, 0, none⟩ = some (.int .i64 0) := hX.cell 0
          have f0 := hX.frozen 0
          have q1 : wf.cell? ⟨BX, 1, none⟩ = some (.int .i64 0) := hX.cell 1
          have f1 := hX.frozen 1
          have q2 : wf.cell? ⟨BX, 2, none⟩ = some (.int .i64 0) := hX.cell 2
          have f2 := hX.frozen 2
          have q3 : wf.cell? ⟨BX, 3, none⟩ = some (.int .i64 0) := hX.cell 3
          have f3 := hX.frozen 3
          have q4 : wf.cell? ⟨BX, 4, none⟩ = some (.int .i64 0) := hX.cell 4
          have f4 := hX.frozen 4
          have q5 : wf.cell? ⟨BX, 5, none⟩ = some (.int .i64 0) := hX.cell 5
          have f5 := hX.frozen 5
          have q6 : wf.cell? ⟨BX, 6, none⟩ = some (.slice none 0 0) := hX.cell 6
          have f6 := hX.frozen 6
          have q7 : wf.cell? ⟨BX, 7, none⟩ = some (.slice none 0 0) := hX.cell 7
          have f7 := hX.frozen 7
          go_wp2_with fail
          have a3 : Below wr.heap.size wr ((((((((wf.setCell ⟨BX, 0, none⟩ (.int .i64 x1)).setCell ⟨BX, 1, none⟩ (.int .i64 x2)).setCell ⟨BX, 2, none⟩ (.int .i64 x3)).setCell ⟨BX, 3, none⟩ (.int .i64 x4)).setCell ⟨BX, 4, none⟩ (.int .i64 x5)).setCell ⟨BX, 5, none⟩ (.int .i64 x6)).setCell ⟨BX, 6, none⟩ (.slice xp xl.length xc)).setCell ⟨BX, 7, none⟩ (.slice xq xm.length xd)) := ((((((((a2.setCell (p := ⟨BX, 0, none⟩) (by show wr.heap.size ≤ BX; omega) (.int .i64 x1)).setCell (p := ⟨BX, 1, none⟩) (by show wr.heap.size ≤ BX; omega) (.int .i64 x2)).setCell (p := ⟨BX, 2, none⟩) (by show wr.heap.size ≤ BX; omega) (.int .i64 x3)).setCell (p := ⟨BX, 3, none⟩) (by show wr.heap.size ≤ BX; omega) (.int .i64 x4)).setCell (p := ⟨BX, 4, none⟩) (by show wr.heap.size ≤ BX; omega) (.int .i64 x5)).setCell (p := ⟨BX, 5, none⟩) (by show wr.heap.size ≤ BX; omega) (.int .i64 x6)).setCell (p := ⟨BX, 6, none⟩) (by show wr.heap.size ≤ BX; omega) (.slice xp xl.length xc)).setCell (p := ⟨BX, 7, none⟩) (by show wr.heap.size ≤ BX; omega) (.slice xq xm.length xd))
          have hX' : Blk ((((((((wf.setCell ⟨BX, 0, none⟩ (.int .i64 x1)).setCell ⟨BX, 1, none⟩ (.int .i64 x2)).setCell ⟨BX, 2, none⟩ (.int .i64 x3)).setCell ⟨BX, 3, none⟩ (.int .i64 x4)).setCell ⟨BX, 4, none⟩ (.int .i64 x5)).setCell ⟨BX, 5, none⟩ (.int .i64 x6)).setCell ⟨BX, 6, none⟩ (.slice xp xl.length xc)).setCell ⟨BX, 7, none⟩ (.slice xq xm.length xd)) BX #[.int .i64 x1, .int .i64 x2, .int .i64 x3, .int .i64 x4, .int .i64 x5, .int .i64 x6, .slice xp xl.length xc, .slice xq xm.length xd] 94 := ((((((((hX.setL 0 (.int .i64 x1)).setL 1 (.int .i64 x2)).setL 2 (.int .i64 x3)).setL 3 (.int .i64 x4)).setL 4 (.int .i64 x5)).setL 5 (.int .i64 x6)).setL 6 (.slice xp xl.length xc)).setL 7 (.slice xq xm.length xd))
          have hY' := ((((((((hY.other (C := BX) (k := 0) (.int .i64 x1) (by omega)).other (C := BX) (k := 1) (.int .i64 x2) (by omega)).other (C := BX) (k := 2) (.int .i64 x3) (by omega)).other (C := BX) (k := 3) (.int .i64 x4) (by omega)).other (C := BX) (k := 4) (.int .i64 x5) (by omega)).other (C := BX) (k := 5) (.int .i64 x6) (by omega)).other (C := BX) (k := 6) (.slice xp xl.length xc) (by omega)).other (C := BX) (k := 7) (.slice xq xm.length xd) (by omega))
          refine ⟨regrown_of_below a3, HK.out _ _ ?_⟩
          clear HK K q0 f0 q1 f1 q2 f2 q3 f3 q4 f4 q5 f5 q6 f6 q7 f7 hX hY a2
          generalize ((((((((wf.setCell ⟨BX, 0, none⟩ (.int .i64 x1)).setCell ⟨BX, 1, none⟩ (.int .i64 x2)).setCell ⟨BX, 2, none⟩ (.int .i64 x3)).setCell ⟨BX, 3, none⟩ (.int .i64 x4)).setCell ⟨BX, 4, none⟩ (.int .i64 x5)).setCell ⟨BX, 5, none⟩ (.int .i64 x6)).setCell ⟨BX, 6, none⟩ (.slice xp xl.length xc)).setCell ⟨BX, 7, none⟩ (.slice xq xm.length xd)) = wg at *
          have a2 := a3; have hX := hX'; have hY := hY'; clear a3 hX' hY'
          refine wpPlan_one fun K hK => ?_
          have HK := Lib.hid hK; clear hK
          simp only [pick, List.getD_cons_succ, List.getD_cons_zero]
          refine wpQuiet_nil ?_
          have q0 : wg.cell? ⟨BY, 0, none⟩ = some (.int .i64 0) := hY.cell 0
          have f0 := hY.frozen 0
          have q1 : wg.cell? ⟨BY, 1, none⟩ = some (.int .i64 0) := hY.cell 1
          have f1 := hY.frozen 1
          have q2 : wg.cell? ⟨BY, 2, none⟩ = some (.int .i64 0) := hY.cell 2
          have f2 := hY.frozen 2
          have q3 : wg.cell? ⟨BY, 3, none⟩ = some (.int .i64 0) := hY.cell 3
          have f3 := hY.frozen 3
          have q4 : wg.cell? ⟨BY, 4, none⟩ = some (.int .i64 0) := hY.cell 4
          have f4 := hY.frozen 4
          have q5 : wg.cell? ⟨BY, 5, none⟩ = some (.int .i64 0) := hY.cell 5
          have f5 := hY.frozen 5
          have q6 : wg.cell? ⟨BY, 6, none⟩ = some (.slice none 0 0) := hY.cell 6
          have f6 := hY.frozen 6
          have q7 : wg.cell? ⟨BY, 7, none⟩ = some (.slice none 0 0) := hY.cell 7
          have f7 := hY.frozen 7
          go_wp2_with fail
          have a3 : Below wr.heap.size wr ((((((((wg.setCell ⟨BY, 0, none⟩ (.int .i64 y1)).setCell ⟨BY, 1, none⟩ (.int .i64 y2)).setCell ⟨BY, 2, none⟩ (.int .i64 y3)).setCell ⟨BY, 3, none⟩ (.int .i64 y4)).setCell ⟨BY, 4, none⟩ (.int .i64 y5)).setCell ⟨BY, 5, none⟩ (.int .i64 y6)).setCell ⟨BY, 6, none⟩ (.slice yp yl.length yc)).setCell ⟨BY, 7, none⟩ (.slice yq ym.length yd)) := ((((((((a2.setCell (p := ⟨BY, 0, none⟩) (by show wr.heap.size ≤ BY; omega) (.int .i64 y1)).setCell (p := ⟨BY, 1, none⟩) (by show wr.heap.size ≤ BY; omega) (.int .i64 y2)).setCell (p := ⟨BY, 2, none⟩) (by show wr.heap.size ≤ BY; omega) (.int .i64 y3)).setCell (p := ⟨BY, 3, none⟩) (by show wr.heap.size ≤ BY; omega) (.int .i64 y4)).setCell (p := ⟨BY, 4, none⟩) (by show wr.heap.size ≤ BY; omega) (.int .i64 y5)).setCell (p := ⟨BY, 5, none⟩) (by show wr.heap.size ≤ BY; omega) (.int .i64 y6)).setCell (p := ⟨BY, 6, none⟩) (by show wr.heap.size ≤ BY; omega) (.slice yp yl.length yc)).setCell (p := ⟨BY, 7, none⟩) (by show wr.heap.size ≤ BY; omega) (.slice yq ym.length yd))
          have hY' : Blk ((((((((wg.setCell ⟨BY, 0, none⟩ (.int .i64 y1)).setCell ⟨BY, 1, none⟩ (.int .i64 y2)).setCell ⟨BY, 2, none⟩ (.int .i64 y3)).setCell ⟨BY, 3, none⟩ (.int .i64 y4)).setCell ⟨BY, 4, none⟩ (.int .i64 y5)).setCell ⟨BY, 5, none⟩ (.int .i64 y6)).setCell ⟨BY, 6, none⟩ (.slice yp yl.length yc)).setCell ⟨BY, 7, none⟩ (.slice yq ym.length yd)) BY #[.int .i64 y1, .int .i64 y2, .int .i64 y3, .int .i64 y4, .int .i64 y5, .int .i64 y6, .slice yp yl.length yc, .slice yq ym.length yd] 94 := ((((((((hY.setL 0 (.int .i64 y1)).setL 1 (.int .i64 y2)).setL 2 (.int .i64 y3)).setL 3 (.int .i64 y4)).setL 4 (.int .i64 y5)).setL 5 (.int .i64 y6)).setL 6 (.slice yp yl.length yc)).setL 7 (.slice yq ym.length yd))
          have hX' := ((((((((hX.other (C := BY) (k := 0) (.int .i64 y1) (by omega)).other (C := BY) (k := 1) (.int .i64 y2) (by omega)).other (C := BY) (k := 2) (.int .i64 y3) (by omega)).other (C := BY) (k := 3) (.int .i64 y4) (by omega)).other (C := BY) (k := 4) (.int .i64 y5) (by omega)).other (C := BY) (k := 5) (.int .i64 y6) (by omega)).other (C := BY) (k := 6) (.slice yp yl.length yc) (by omega)).other (C := BY) (k := 7) (.slice yq ym.length yd) (by omega))
          refine ⟨regrown_of_below a3, HK.out _ _ ?_⟩
          clear HK K q0 f0 q1 f1 q2 f2 q3 f3 q4 f4 q5 f5 q6 f6 q7 f7 hY hX a2
          generalize ((((((((wg.setCell ⟨BY, 0, none⟩ (.int .i64 y1)).setCell ⟨BY, 1, none⟩ (.int .i64 y2)).setCell ⟨BY, 2, none⟩ (.int .i64 y3)).setCell ⟨BY, 3, none⟩ (.int .i64 y4)).setCell ⟨BY, 4, none⟩ (.int .i64 y5)).setCell ⟨BY, 5, none⟩ (.int .i64 y6)).setCell ⟨BY, 6, none⟩ (.slice yp yl.length yc)).setCell ⟨BY, 7, none⟩ (.slice yq ym.length yd)) = wh at *
          have a2 := a3; have hY := hY'; have hX := hX'; clear a3 hY' hX'
          refine wpPlan_last ?_
          simp only [pick]
          refine wpQuiet_nil ?_
          refine NoPanic.normal ?_
        all_goals
          have hbf := hbl.trans (a2.mono hbl.size)
          have X0 : wh.cell? ⟨BX, 0, none⟩ = some (.int .i64 x1) := Blk.cell (show Blk wh BX _ _ from hX) 0
          have Y0 : wh.cell? ⟨BY, 0, none⟩ = some (.int .i64 y1) := Blk.cell (show Blk wh BY _ _ from hY) 0
          have X1 : wh.cell? ⟨BX, 1, none⟩ = some (.int .i64 x2) := Blk.cell (show Blk wh BX _ _ from hX) 1
          have Y1 : wh.cell? ⟨BY, 1, none⟩ = some (.int .i64 y2) := Blk.cell (show Blk wh BY _ _ from hY) 1
          have X2 : wh.cell? ⟨BX, 2, none⟩ = some (.int .i64 x3) := Blk.cell (show Blk wh BX _ _ from hX) 2
          have Y2 : wh.cell? ⟨BY, 2, none⟩ = some (.int .i64 y3) := Blk.cell (show Blk wh BY _ _ from hY) 2
          have X3 : wh.cell? ⟨BX, 3, none⟩ = some (.int .i64 x4) := Blk.cell (show Blk wh BX _ _ from hX) 3
          have Y3 : wh.cell? ⟨BY, 3, none⟩ = some (.int .i64 y4) := Blk.cell (show Blk wh BY _ _ from hY) 3
          have X4 : wh.cell? ⟨BX, 4, none⟩ = some (.int .i64 x5) := Blk.cell (show Blk wh BX _ _ from hX) 4
          have Y4 : wh.cell? ⟨BY, 4, none⟩ = some (.int .i64 y5) := Blk.cell (show Blk wh BY _ _ from hY) 4
          have X5 : wh.cell? ⟨BX, 5, none⟩ = some (.int .i64 x6) := Blk.cell (show Blk wh BX _ _ from hX) 5
          have Y5 : wh.cell? ⟨BY, 5, none⟩ = some (.int .i64 y6) := Blk.cell (show Blk wh BY _ _ from hY) 5
          have X6 : wh.cell? ⟨BX, 6, none⟩ = some (.slice xp xl.length xc) := Blk.cell (show Blk wh BX _ _ from hX) 6
          have Y6 : wh.cell? ⟨BY, 6, none⟩ = some (.slice yp yl.length yc) := Blk.cell (show Blk wh BY _ _ from hY) 6
          have X7 : wh.cell? ⟨BX, 7, none⟩ = some (.slice xq xm.length xd) := Blk.cell (show Blk wh BX _ _ from hX) 7
          have Y7 : wh.cell? ⟨BY, 7, none⟩ = some (.slice yq ym.length yd) := Blk.cell (show Blk wh BY _ _ from hY) 7
          have sv := sameVals_any (s := ⟨xp, xc, xl⟩) (t := ⟨yp, yc, yl⟩) (RdVl.st _ _ _ xo1 a2) (RdVl.st _ _ _ yo1 a2)
          dsimp only [Sv.val] at sv
          have HSV := Lib.hid sv; clear sv
          have hne := fun h => decide_eq_false (map_ne (c := Fr.c) HX.out HY.out h)
          have heq := fun h => take_step (c := Fr.c) HX.out HY.out h hno.out
          have HNE := Lib.hid hne; have HEQ := Lib.hid heq; have HXX := Lib.hid hX; have HYY := Lib.hid hY; clear hne heq hX hY hno
          have HO2 := Lib.hid xo2; have HP2 := Lib.hid yo2; clear xo1 yo1 xo2 yo2 HX HY
          clear hbd hbn1 hbn2 hge1 hlt1 hb hb2
          rcases (Classical.em (x1 = y1)).symm with g1 | g1
          · have k1 : (x1 != y1) = true := by simpa using g1
            go_wp2_with fail
            go_ret
            exact ⟨ret_bool (HNE.out (fun e => by simp [Fr.c] at e; exact g1 (by simp [e]))).symm, hbf⟩
          · subst g1
            rcases (Classical.em (x2 = y2)).symm with g2 | g2
            · have k2 : (x2 != y2) = true := by simpa using g2
              go_wp2_with fail
              go_ret
              exact ⟨ret_bool (HNE.out (fun e => by simp [Fr.c] at e; exact g2 (by simp [e]))).symm, hbf⟩
            · subst g2
              rcases (Classical.em (x3 = y3)).symm with g3 | g3
              · have k3 : (x3 != y3) = true := by simpa using g3
                go_wp2_with fail
                go_ret
                exact ⟨ret_bool (HNE.out (fun e => by simp [Fr.c] at e; exact g3 (by simp [e]))).symm, hbf⟩
              · subst g3
                rcases (Classical.em (x4 = y4)).symm with g4 | g4
                · have k4 : (x4 != y4) = true := by simpa using g4
                  go_wp2_with fail
                  go_ret
                  exact ⟨ret_bool (HNE.out (fun e => by simp [Fr.c] at e; exact g4 (by simp [e]))).symm, hbf⟩
                · subst g4
                  rcases (Classical.em (x5 = y5)).symm with g5 | g5
                  · have k5 : (x5 == y5) = false := by simpa using g5
                    go_wp2_with fail
                    go_ret
                    exact ⟨ret_bool (HNE.out (fun e => by simp [Fr.c] at e; exact g5 (by simp [e]))).symm, hbf⟩
                  · subst g5
                    rcases (Classical.em (x6 = y6)).symm with g6 | g6
                    · have k6 : (x6 == y6) = false := by simpa using g6
                      go_wp2_with fail
                      go_ret
                      exact ⟨ret_bool (HNE.out (fun e => by simp [Fr.c] at e; exact g6 (by simp [e]))).symm, hbf⟩
                    · subst g6
                      rcases (Classical.em (xl = yl)).symm with g7 | g7
                      · have hsv := HSV.out
                        rw [decide_eq_false g7] at hsv
                        have HS2 := Lib.hid hsv; clear hsv HSV
                        go_wp2_with fail
                        refine HS2.out.mono ?_
                        rintro _ wv ⟨rfl, hbv⟩
                        have hbf2 := hbf.trans (hbv.mono hbf.size)
                        go_wp2_with fail
                        go_ret
                        exact ⟨ret_bool (HNE.out (fun e => by simp [Fr.c] at e; exact g7 (by simp [e]))).symm, hbf2⟩
                      · subst g7
                        have hsv := HSV.out
                        rw [decide_eq_true rfl] at hsv
                        have HS2 := Lib.hid hsv; clear hsv HSV
                        go_wp2_with fail
                        refine HS2.out.mono ?_
                        rintro _ wv ⟨rfl, hbv⟩
                        have hbf2 := hbf.trans (hbv.mono hbf.size)
                        have hXv := Blk.next HXX.out hbv
                        have hYv := Blk.next HYY.out hbv
                        have U7 : wv.cell? ⟨BX, 7, none⟩ = some (.slice xq xm.length xd) := Blk.cell hXv 7
                        have V7 : wv.cell? ⟨BY, 7, none⟩ = some (.slice yq ym.length yd) := Blk.cell hYv 7
                        have ho2 := RdTy.st _ _ _ (RdTy.st _ _ _ HO2.out a2) hbv
                        have hp2 := RdTy.st _ _ _ (RdTy.st _ _ _ HP2.out a2) hbv
                        clear X0 Y0 X1 Y1 X2 Y2 X3 Y3 X4 Y4 X5 Y5 X6 Y6 X7 Y7 HS2 HXX HYY HO2 HP2
                        rcases (Classical.em (xm.length = ym.length)).symm with g8 | g8
                        · have k8 : ((xm.length : Int) != (ym.length : Int)) = true := by simp; omega
                          have HG := Lib.hid g8; clear g8
                          go_wp2_with fail
                          go_ret
                          exact ⟨ret_bool (HNE.out (fun e => by simp [Fr.c] at e; exact HG.out (by simp [e]))).symm, hbf2⟩
                        · have k8 : ((xm.length : Int) != (ym.length : Int)) = false := by simp; omega
                          have HG := Lib.hid g8; clear g8
                          have hxm := ho2.row.le; have hxm2 := ho2.row.big; have hym := hp2.row.le; have hym2 := hp2.row.big
                          dsimp only at hxm hxm2 hym hym2
                          have hxm3 : xm.length ≤ 9223372036854775807 := Nat.le_trans hxm hxm2
                          go_wp2_with fail
                          go_loopw [8] (fun s8 wr => ∃ i : Nat, i ≤ xm.length ∧ s8 = .int .i64 i ∧ Below wv.heap.size wv wr ∧ Hid (xm.take i = ym.take i)) (fun s8 _ => xm.length - (intOf s8).toNat)
                          case atStart => exact ⟨0, Nat.zero_le _, rfl, Below.refl _ _, Lib.hid rfl⟩
                          case round =>
                            obtain ⟨i, hi, rfl, hby, hno2⟩ := hrel
                            have U7' : wr.cell? ⟨BX, 7, none⟩ = some (.slice xq xm.length xd) := Blk.cell (Blk.next hXv hby) 7
                            have V7' : wr.cell? ⟨BY, 7, none⟩ = some (.slice yq ym.length yd) := Blk.cell (Blk.next hYv hby) 7
                            have hbf3 := hbf2.trans (hby.mono hbf2.size)
                            by_cases hlt2 : i < xm.length
                            · have hltm2 : i < ym.length := by have := HG.out; omega
                              obtain ⟨b3, o3, hp3, hb3, hc3⟩ := (RdTy.st _ _ _ ho2 hby).at_ (fun _ => rfl) (by omega) hlt2 default
                              obtain ⟨b4, o4, hp4, hb4, hc4⟩ := (RdTy.st _ _ _ hp2 hby).at_ (fun _ => rfl) (by omega) hltm2 default
                              dsimp only at hp3 hp4
                              have hx3 : xm[i]? = some (xm.getD i default) := by simp [hlt2]
                              have hy3 : ym[i]? = some (ym.getD i default) := by simp [hltm2]
                              generalize xm.getD i default = u at *
                              generalize ym.getD i default = v at *
                              obtain ⟨ur, ua⟩ := u
                              obtain ⟨vr, va⟩ := v
                              have s0 : wr.cell? ⟨b3, o3 + i * 2, none⟩ = some (.int .i64 ur) := hc3 0 _ rfl
                              have s1 : wr.cell? ⟨b3, o3 + i * 2 + 1, none⟩ = some (.int .i64 ua) := hc3 1 _ rfl
                              have t0 : wr.cell? ⟨b4, o4 + i * 2, none⟩ = some (.int .i64 vr) := hc4 0 _ rfl
                              have t1 : wr.cell? ⟨b4, o4 + i * 2 + 1, none⟩ = some (.int .i64 va) := hc4 1 _ rfl
                              subst hp3 hp4
                              have HX3 := Lib.hid hx3; have HY3 := Lib.hid hy3; have HXV := Lib.hid hXv; have HYV := Lib.hid hYv; have HO := Lib.hid ho2; have HP := Lib.hid hp2; clear hx3 hy3 hc3 hc4 hXv hYv ho2 hp2 U7 V7
                              by_cases huv : ur = vr ∧ ua = va
                              · obtain ⟨rfl, rfl⟩ := huv
                                go_wp2_with fail
                                go_quiet (fail)
                                go_wp2_with fail
                                go_roundw
                                case rel =>
                                  refine ⟨i + 1, by omega, by go_num, below_drewN hby _, ?_⟩
                                  unfold Hid
                                  rw [List.take_add_one, List.take_add_one, HX3.out, HY3.out, hno2.out]
                                case measure => simp [intOf]; omega
                              · have hfin : decide (List.map Fr.c sl = List.map Fr.c tl) = false := HNE.out (fun e => by
                                  simp [Fr.c] at e
                                  have h1 := HX3.out.symm.trans ((congrArg (·[i]?) e).trans HY3.out)
                                  simp at h1
                                  exact huv h1)
                                have HF := Lib.hid hfin; clear hfin
                                cases h1 : (ur == vr) with
                                | false =>
                                  clear huv
                                  go_wp2_with fail
                                  go_quiet (fail)
                                  go_wp2_with fail
                                  go_ret
                                  exact ⟨ret_bool HF.out.symm, below_drewN hbf3 _⟩
                                | true =>
                                  have h2 : (ua == va) = false := by
                                    have h3 : ur = vr := by simpa using h1
                                    simpa using fun h4 => huv ⟨h3, h4⟩
                                  clear huv
                                  go_wp2_with fail
                                  go_quiet (fail)
                                  go_wp2_with fail
                                  go_ret
                                  exact ⟨ret_bool HF.out.symm, below_drewN hbf3 _⟩
                            · obtain rfl : i = xm.length := by omega
                              have hmm := hno2.out
                              rw [List.take_length, HG.out, List.take_length] at hmm
                              have hfin := HEQ.out (by simp [Fr.c, hmm])
                              have HF := Lib.hid hfin; clear hfin hmm
                              go_wp2_with fail
                              go_roundw
                              case rel => exact ⟨k + 1, by omega, by go_num, hbf3, HF.out⟩
                              case measure => simp [intOf]; omega
      · obtain rfl : k = sl.length := by omega
        go_wp2_with fail
        go_ret
        refine ⟨ret_bool ?_, hbl⟩
        have := hno.out
        rw [List.take_length, HL.out, List.take_length] at this
        simp [this]
  · have hlt0 : ((sl.length : Int) != (tl.length : Int)) = true := by simp; omega
    have HL := Lib.hid hlen; clear hlen
    go_enter Try.func40, Try.ntmps40
    go_wp2_with fail
    go_ret
    refine ⟨ret_bool ?_, Below.refl _ _⟩
    rw [eq_comm, decide_eq_false_iff_not]
    intro e
    have := congrArg List.length e
    simp at this
    exact HL.out this
end Go.Proofs.Ythdleldnjoamlaa
