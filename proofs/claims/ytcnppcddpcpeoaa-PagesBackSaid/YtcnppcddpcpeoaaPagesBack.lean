/-
  The walk of PagesBack.
-/
import Derived.Test.YtcnppcddpcpeoaaBegun
import Derived.Test.YtcnppcddpcpeoaaLaws5
import Derived.Test.YtcnppcddpcpeoaaDropP
import Derived.Test.YtcnppcddpcpeoaaSame
namespace Go.Proofs.Ytcnppcddpcpeoaa
open Go.RowKit Go.Sort

set_option maxRecDepth 100000 in
set_option maxHeartbeats 40000000 in
theorem pagesBack_any {W : World} {x : Ds} (hx : x.ok W) (root at_ v : Int) :
    Calls Try.prog 5 #[x.val, .int .i64 root, .int .i64 at_, .int .i64 v] W fun e w' => e = .returned (.bool true) ∧ Below W.heap.size W w' := by
  obtain ⟨⟨pp, cp, pg⟩, ⟨pu, cu, us⟩, ⟨pr, cr, rs⟩⟩ := x
  have hbW := (Below.refl W.heap.size W).alloc (Nat.le_refl _) (.cells #[.slice pp pg.length cp, .slice pu us.length cu, .slice pr rs.length cr] 26)
  have hA := Blk.mk2 W #[.slice pp pg.length cp, .slice pu us.length cu, .slice pr rs.length cr] 26
  have hx1 := Ds.ok.st _ _ _ hx hbW
  clear hx
  generalize hs : Ds.c ⟨⟨pp, cp, pg⟩, ⟨pu, cu, us⟩, ⟨pr, cr, rs⟩⟩ = s at *
  have HS := Lib.hid hs; clear hs
  go_enter Try.func5, Try.ntmps5
  refine wp_seq_k fun K hK => ?_
  have HK := Lib.hid hK; clear hK
  go_wp2_with fail
  refine HK.out _ _ ?_
  clear HK K
  generalize W.alloc (.cells #[.slice pp pg.length cp, .slice pu us.length cu, .slice pr rs.length cr] 26) = w0 at *
  generalize hAB : W.heap.size = AB at *
  have hpl63 := hx1.pages.le; have hul63 := hx1.uses.lt63; have hrl63 := hx1.roots.le
  dsimp only at hpl63 hul63 hrl63
  have hc := begun_any w0
  have HC := Lib.hid hc; clear hc
  have c_hA_0 : w0.cell? ⟨AB, 0, none⟩ = some (.slice pp pg.length cp) := hA.cell 0
  have c_hA_1 : w0.cell? ⟨AB, 1, none⟩ = some (.slice pu us.length cu) := hA.cell 1
  have c_hA_2 : w0.cell? ⟨AB, 2, none⟩ = some (.slice pr rs.length cr) := hA.cell 2
  go_wp2_with fail
  refine HC.out.mono ?_
  rintro _ w1 ⟨rfl, hb_⟩
  clear HC
  clear c_hA_0 c_hA_1 c_hA_2
  have hA' := hA.next hb_
  clear hA; have hA := hA'; clear hA'
  have hx1' := Ds.ok.st _ _ _ hx1 hb_
  clear hx1; have hx1 := hx1'; clear hx1'
  have hbW' := hbW.trans (hb_.mono (hAB ▸ hbW.size))
  clear hbW hb_; have hbW := hbW'; clear hbW'
  generalize hsr : setR s root at_ v = r at *
  have HSR := Lib.hid hsr; clear hsr
  have hc := set_any hx1 root at_ v (r := r) (by rw [HS.out]; exact HSR.out)
  have HC := Lib.hid hc; clear hc
  have c_hA_0 : w1.cell? ⟨AB, 0, none⟩ = some (.slice pp pg.length cp) := hA.cell 0
  have c_hA_1 : w1.cell? ⟨AB, 1, none⟩ = some (.slice pu us.length cu) := hA.cell 1
  have c_hA_2 : w1.cell? ⟨AB, 2, none⟩ = some (.slice pr rs.length cr) := hA.cell 2
  go_wp2_with fail
  refine HC.out.mono ?_
  rintro _ w2 ⟨y, n, rfl, hy, hb_, h0, hne⟩
  clear HC
  clear c_hA_0 c_hA_1 c_hA_2
  have hA' := hA.next hb_
  clear hA; have hA := hA'; clear hA'
  have hx1' := Ds.ok.st _ _ _ hx1 hb_
  clear hx1; have hx1 := hx1'; clear hx1'
  have hbW' := hbW.trans (hb_.mono (hAB ▸ hbW.size))
  clear hbW hb_; have hbW := hbW'; clear hbW'
  rw [HS.out] at h0
  by_cases hr0 : r = 0
  · subst hr0
    obtain ⟨hyc, hn⟩ := h0 rfl
    obtain ⟨t, ht, n', hn', h1, d, hd, hbk⟩ := back_ok HSR.out
    have hnn : n = n' := hn.trans hn'
    have hyt : y.c = t := hyc.trans ht
    clear hn hn' hyc ht h0 hne
    subst hnn
    have HYT := Lib.hid hyt; have H1 := Lib.hid h1; have HDD := Lib.hid hd; have HBK := Lib.hid hbk; clear hyt h1 hd hbk
    obtain ⟨⟨yp, yc, yl⟩, ⟨yq, yd, ym⟩, ⟨yr, ye, yn⟩⟩ := y
    have hal := (Below.refl w2.heap.size w2).alloc (Nat.le_refl _) (.cells #[.slice yp yl.length yc, .slice yq ym.length yd, .slice yr yn.length ye] 26)
    have hB := Blk.mk2 w2 #[.slice yp yl.length yc, .slice yq ym.length yd, .slice yr yn.length ye] 26
    have hA' := hA.next hal
    clear hA; have hA := hA'; clear hA'
    have hx1' := Ds.ok.st _ _ _ hx1 hal
    clear hx1; have hx1 := hx1'; clear hx1'
    have hy' := Ds.ok.st _ _ _ hy hal
    clear hy; have hy := hy'; clear hy'
    have hbW' := hbW.trans (hal.mono (hAB ▸ hbW.size))
    clear hbW hal; have hbW := hbW'; clear hbW'
    have hc := drop_any hy n (r := 0) (by rw [HYT.out]; exact H1.out)
    have HC := Lib.hid hc; clear hc
    have c_hA_0 : (w2.alloc (.cells #[.slice yp yl.length yc, .slice yq ym.length yd, .slice yr yn.length ye] 26)).cell? ⟨AB, 0, none⟩ = some (.slice pp pg.length cp) := hA.cell 0
    have c_hA_1 : (w2.alloc (.cells #[.slice yp yl.length yc, .slice yq ym.length yd, .slice yr yn.length ye] 26)).cell? ⟨AB, 1, none⟩ = some (.slice pu us.length cu) := hA.cell 1
    have c_hA_2 : (w2.alloc (.cells #[.slice yp yl.length yc, .slice yq ym.length yd, .slice yr yn.length ye] 26)).cell? ⟨AB, 2, none⟩ = some (.slice pr rs.length cr) := hA.cell 2
    have c_hB_0 : (w2.alloc (.cells #[.slice yp yl.length yc, .slice yq ym.length yd, .slice yr yn.length ye] 26)).cell? ⟨w2.heap.size, 0, none⟩ = some (.slice yp yl.length yc) := hB.cell 0
    have c_hB_1 : (w2.alloc (.cells #[.slice yp yl.length yc, .slice yq ym.length yd, .slice yr yn.length ye] 26)).cell? ⟨w2.heap.size, 1, none⟩ = some (.slice yq ym.length yd) := hB.cell 1
    have c_hB_2 : (w2.alloc (.cells #[.slice yp yl.length yc, .slice yq ym.length yd, .slice yr yn.length ye] 26)).cell? ⟨w2.heap.size, 2, none⟩ = some (.slice yr yn.length ye) := hB.cell 2
    go_wp2_with fail
    refine HC.out.mono ?_
    rintro _ wa ⟨z, rfl, hz, hb_, d0, -⟩
    clear HC
    clear c_hA_0 c_hA_1 c_hA_2 c_hB_0 c_hB_1 c_hB_2
    have hA' := hA.next hb_
    clear hA; have hA := hA'; clear hA'
    have hB' := hB.next hb_
    clear hB; have hB := hB'; clear hB'
    have hx1' := Ds.ok.st _ _ _ hx1 hb_
    clear hx1; have hx1 := hx1'; clear hx1'
    have hy' := Ds.ok.st _ _ _ hy hb_
    clear hy; have hy := hy'; clear hy'
    have hbW' := hbW.trans (hb_.mono (hAB ▸ hbW.size))
    clear hbW hb_; have hbW := hbW'; clear hbW'
    have hzd : z.c = d := by rw [d0 rfl, HYT.out]; exact HDD.out
    clear d0 hB hy HYT HDD H1
    generalize w2.heap.size = OB at *
    obtain ⟨⟨zp, zc, zl⟩, ⟨zq, zd, zm⟩, ⟨zr, ze, zn⟩⟩ := z
    have hal := (Below.refl wa.heap.size wa).alloc (Nat.le_refl _) (.cells #[.slice zp zl.length zc, .slice zq zm.length zd, .slice zr zn.length ze] 26)
    have hD := Blk.mk2 wa #[.slice zp zl.length zc, .slice zq zm.length zd, .slice zr zn.length ze] 26
    have hA' := hA.next hal
    clear hA; have hA := hA'; clear hA'
    have hx1' := Ds.ok.st _ _ _ hx1 hal
    clear hx1; have hx1 := hx1'; clear hx1'
    have hz' := Ds.ok.st _ _ _ hz hal
    clear hz; have hz := hz'; clear hz'
    have hbW' := hbW.trans (hal.mono (hAB ▸ hbW.size))
    clear hbW hal; have hbW := hbW'; clear hbW'
    have hs := HS.out
    obtain ⟨b1, b2, b3, b4, b5, b6, b7, b8, b9, b10, b11⟩ := HBK.out
    rw [← hs, ← hzd] at b1 b2 b6 b7 b8 b9 b11
    rw [← hs] at b3 b4 b10
    rw [← hzd] at b5
    replace b1 : pg.length ≤ zl.length := b1; replace b2 : zl.length ≤ pg.length + 1 := b2; replace b3 : pg.length ≤ 400 := b3; replace b4 : us.length = pg.length := b4; replace b5 : zm.length = zl.length := b5
    replace b9 : rs.length ≤ zn.length := by simpa [Ds.c] using b9
    replace b10 : rs.length ≤ 40 := by simpa [Ds.c] using b10
    have B4 := Lib.hid b4; have B5 := Lib.hid b5; have B6 := Lib.hid b6; have B7 := Lib.hid b7; have B8 := Lib.hid b8; have B11 := Lib.hid b11; clear b4 b5 b6 b7 b8 b11 hs hzd HBK
    have c0 : (wa.alloc (.cells #[.slice zp zl.length zc, .slice zq zm.length zd, .slice zr zn.length ze] 26)).cell? ⟨wa.heap.size, 0, none⟩ = some (.slice zp zl.length zc) := hD.cell 0
    have a0 : (wa.alloc (.cells #[.slice zp zl.length zc, .slice zq zm.length zd, .slice zr zn.length ze] 26)).cell? ⟨AB, 0, none⟩ = some (.slice pp pg.length cp) := hA.cell 0
    go_wp2_with fail
    clear c0 a0
    generalize wa.alloc (.cells #[.slice zp zl.length zc, .slice zq zm.length zd, .slice zr zn.length ze] 26) = wq at *
    generalize wa.heap.size = OD at *
    generalize hqs : wq.heap.size = QS at *
    have hQS : AB ≤ QS := by have := hbW.size; omega
    go_loopw [14] (fun t wr => ∃ k : Nat, k ≤ zl.length ∧ t = .int .i64 k ∧ Below QS wq wr) (fun t _ => zl.length - (intOf t).toNat)
    case atStart => exact ⟨0, Nat.zero_le _, rfl, Below.refl _ _⟩
    case round =>
      obtain ⟨k, hk, rfl, hbl⟩ := hrel
      have hAr := hA.next (hqs ▸ hbl); have hDr := hD.next (hqs ▸ hbl)
      have a0 : wr.cell? ⟨AB, 0, none⟩ = some (.slice pp pg.length cp) := hAr.cell 0
      have d0 : wr.cell? ⟨OD, 0, none⟩ = some (.slice zp zl.length zc) := hDr.cell 0
      by_cases hlt : k < zl.length
      · have hzr := Ds.ok.st _ _ _ hz (hqs ▸ hbl); have hxr := Ds.ok.st _ _ _ hx1 (hqs ▸ hbl)
        obtain ⟨bu, ou, hpu, -, hcu⟩ := hzr.uses.at_ (i := k) (by show k < zm.length; have := B5.out; omega)
        dsimp only at hpu hcu
        have a1 : wr.cell? ⟨AB, 1, none⟩ = some (.slice pu us.length cu) := hAr.cell 1
        have d1 : wr.cell? ⟨OD, 1, none⟩ = some (.slice zq zm.length zd) := hDr.cell 1
        have hzm4 : zm.length ≤ 401 ∧ k < zm.length := by have := B5.out; omega
        by_cases hlp : k < pg.length
        · have hpge := B6.out k hlp
          have huse := B7.out k hlp
          replace hpge : zl.getD k default = pg.getD k default := hpge
          replace huse : zm.getD k 0 = us.getD k 0 := huse
          have hus4 : us.length ≤ 400 ∧ k < us.length := by have := B4.out; omega
          obtain ⟨bv, ov, hpv, -, hcv⟩ := hxr.uses.at_ (i := k) (by show k < us.length; omega)
          obtain ⟨b7, o7, hp7, -, hc7⟩ := hzr.pages.at_ (fun _ => rfl) (by omega) hlt default
          obtain ⟨b8, o8, hp8, -, hc8⟩ := hxr.pages.at_ (fun _ => rfl) (by omega) hlp default
          dsimp only at hpv hcv hp7 hp8
          rw [hpge] at hc7
          rw [huse] at hcu
          generalize pg.getD k default = g at *
          generalize us.getD k 0 = u at *
          obtain ⟨ga, gb, gc, gd⟩ := g
          have x0 := hc7 0 _ rfl; have x1 := hc7 1 _ rfl; have x2 := hc7 2 _ rfl; have x3 := hc7 3 _ rfl
          have y0 := hc8 0 _ rfl; have y1 := hc8 1 _ rfl; have y2 := hc8 2 _ rfl; have y3 := hc8 3 _ rfl
          dsimp only at x0 x1 x2 x3 y0 y1 y2 y3
          rw [Nat.add_zero] at x0 y0
          subst hpu hpv hp7 hp8
          have hq : ∀ w, (Op.equalIn 10000 38 (.agg #[.int .i64 ga, .int .i64 gb, .int .i64 gc, .int .i64 gd]) (.agg #[.int .i64 ga, .int .i64 gb, .int .i64 gc, .int .i64 gd])).run Try.prog w = .ok true w := fun w => by
            have := run_eqIn_page w ⟨ga, gb, gc, gd⟩ ⟨ga, gb, gc, gd⟩
            rw [decide_eq_true rfl] at this
            exact this
          clear hpge huse hc7 hc8
          have r0 := cell_regrown x0; have r1 := cell_regrown x1; have r2 := cell_regrown x2; have r3 := cell_regrown x3
          have s0 := cell_regrown y0; have s1 := cell_regrown y1; have s2 := cell_regrown y2; have s3 := cell_regrown y3
          have t0 := cell_regrown a0; have t1 := cell_regrown a1; have t2 := cell_regrown d0; have t3 := cell_regrown d1
          have u0 := cell_regrown hcu; have u1 := cell_regrown hcv
          clear x0 x1 x2 x3 y0 y1 y2 y3 a1 d1 hcu hcv
          go_wp2_with fail
          have f1 : decide (k < pg.length) = true := by simpa using hlp
          have f2 : decide ((k : Int) < (pg.length : Int)) = true := by simpa using hlp
          have f3 : (u != u) = false := by simp
          have f4 : decide (pg.length ≤ k) = false := by simpa using hlp
          have f5 : decide ((pg.length : Int) ≤ (k : Int)) = false := by simpa using hlp
          refine quiet_below rfl (by kernel_rfl) (by kernel_rfl) ?_
          repeat (go_big_quiet_step (fail))
          refine wpQuiet_nil ?_
          intro w6 hb6
          have hbl3 := hbl.trans (hb6.mono (hqs ▸ hbl.size))
          clear r0 r1 r2 r3 s0 s1 s2 s3 t0 t1 t2 t3 u0 u1 hq a0 d0
          go_wp2_with fail
          go_roundw
          case rel => exact ⟨k + 1, by omega, by go_num, hbl3⟩
          case measure => simp [intOf]; omega
        · have hzero := B8.out k (by show pg.length ≤ k; omega) hlt
          replace hzero : zm.getD k 0 = 0 := hzero
          rw [hzero] at hcu
          subst hpu
          clear hzero
          have t0 := cell_regrown a0; have t2 := cell_regrown d0; have t3 := cell_regrown d1; have u0 := cell_regrown hcu
          clear a1 d1 hcu
          have hge : pg.length ≤ k := by omega
          clear hlp
          have f1 : decide (k < pg.length) = false := by simpa using hge
          have f2 : decide ((k : Int) < (pg.length : Int)) = false := by simpa using hge
          have f3 : decide (pg.length ≤ k) = true := by simpa using hge
          have f4 : decide ((pg.length : Int) ≤ (k : Int)) = true := by simpa using hge
          go_wp2_with fail
          refine quiet_below rfl (by kernel_rfl) (by kernel_rfl) ?_
          repeat (go_big_quiet_step (fail))
          refine wpQuiet_nil ?_
          intro w6 hb6
          have hbl3 := hbl.trans (hb6.mono (hqs ▸ hbl.size))
          clear t0 t2 t3 u0 a0 d0
          go_wp2_with fail
          go_roundw
          case rel => exact ⟨k + 1, by omega, by go_num, hbl3⟩
          case measure => simp [intOf]; omega
      · obtain rfl : k = zl.length := by omega
        have hx2 := Ds.ok.st _ _ _ hx1 (hqs ▸ hbl); have hz2 := Ds.ok.st _ _ _ hz (hqs ▸ hbl)
        have hbW2 := hbW.trans (hbl.mono hQS)
        go_wp2_with fail
        clear a0 d0 hA hD hx1 hz hbW hbl
        obtain ⟨wo, rfl⟩ : ∃ wo : World, wo = wr := ⟨_, rfl⟩
        generalize hos : wo.heap.size = OS at *
        have hOS : AB ≤ OS := by have := hbW2.size; omega
        go_loopw [15] (fun t wr => ∃ k : Nat, k ≤ rs.length ∧ t = .int .i64 k ∧ Below OS wo wr) (fun t _ => rs.length - (intOf t).toNat)
        case atStart => exact ⟨0, Nat.zero_le _, rfl, Below.refl _ _⟩
        case round =>
          obtain ⟨k, hk, rfl, hbl⟩ := hrel
          have hA3 := hAr.next (hos ▸ hbl); have hD3 := hDr.next (hos ▸ hbl)
          have a2 : wr.cell? ⟨AB, 2, none⟩ = some (.slice pr rs.length cr) := hA3.cell 2
          by_cases hlt2 : k < rs.length
          · have hzr := Ds.ok.st _ _ _ hz2 (hos ▸ hbl); have hxr := Ds.ok.st _ _ _ hx2 (hos ▸ hbl)
            have hkz : k < zn.length := by omega
            obtain ⟨b7, o7, hp7, -, hc7, hr7⟩ := hzr.roots.at_ hkz
            obtain ⟨b8, o8, hp8, -, hc8, hr8⟩ := hxr.roots.at_ hlt2
            dsimp only at hp7 hc7 hr7 hp8 hc8 hr8
            have heq := B11.out k (by simpa [Ds.c] using hlt2)
            have e1 : (Ds.c ⟨⟨zp, zc, zl⟩, ⟨zq, zd, zm⟩, ⟨zr, ze, zn⟩⟩).roots.getD k [] = (zn.getD k default).l := by simp [Ds.c, hkz]
            have e2 : (Ds.c ⟨⟨pp, cp, pg⟩, ⟨pu, cu, us⟩, ⟨pr, cr, rs⟩⟩).roots.getD k [] = (rs.getD k default).l := by simp [Ds.c, hlt2]
            rw [e1, e2] at heq
            generalize zn.getD k default = za at *
            generalize rs.getD k default = xa at *
            obtain ⟨zap, zac, zal⟩ := za
            obtain ⟨xap, xac, xal⟩ := xa
            dsimp only at heq
            subst heq
            dsimp only [Sv.val] at hc7 hr7 hc8 hr8
            subst hp7 hp8
            have d2 : wr.cell? ⟨OD, 2, none⟩ = some (.slice (some ⟨b7, o7, none⟩) zn.length ze) := hD3.cell 2
            have hsv := fun d os => Calls.regrown_of (d := d) (os := os) (sameI_is (RdI.st _ _ _ hr7 (below_regrown wr d os)) (RdI.st _ _ _ hr8 (below_regrown wr d os)) (b := true) (by simp))
            dsimp only at hsv
            have HSV := Lib.hid hsv; clear hsv e1 e2
            have t0 := cell_regrown a2; have t1 := cell_regrown d2; have t2 := cell_regrown hc7; have t3 := cell_regrown hc8
            have hzl63 := hzr.roots.le
            dsimp only at hzl63
            clear d2 hc7 hc8
            go_wp2_with fail
            refine quiet_below rfl (by kernel_rfl) (by kernel_rfl) ?_
            repeat (go_big_quiet_step (with_reducible exact HSV.out _ _))
            refine wpQuiet_nil ?_
            intro w6 hb6
            have hbl3 := hbl.trans (hb6.mono (hos ▸ hbl.size))
            clear t0 t1 t2 t3 HSV a2
            go_wp2_with fail
            go_roundw
            case rel => exact ⟨k + 1, by omega, by go_num, hbl3⟩
            case measure => simp [intOf]; omega
          · obtain rfl : k = rs.length := by omega
            have hbW3 := hbW2.trans (hbl.mono hOS)
            have hc := begun_any wr
            have HC := Lib.hid hc; clear hc
            go_wp2_with fail
            refine HC.out.mono ?_
            rintro _ wz ⟨rfl, hb_⟩
            go_wp2_with fail
            go_ret
            exact ⟨rfl, hbW3.trans (hb_.mono (hAB ▸ hbW3.size))⟩
  · obtain ⟨hye, hn⟩ := hne hr0
    subst hye hn
    have k6 : (r != 0) = true := by simpa using hr0
    have HR0 := Lib.hid hr0; clear hr0 h0 hne hy
    have hal := (Below.refl w2.heap.size w2).alloc (Nat.le_refl _) (.cells #[.slice none 0 0, .slice none 0 0, .slice none 0 0] 26)
    have hB := Blk.mk2 w2 #[.slice none 0 0, .slice none 0 0, .slice none 0 0] 26
    have hbW2 := hbW.trans (hal.mono (hAB ▸ hbW.size))
    have hc := begun_any (w2.alloc (.cells #[.slice none 0 0, .slice none 0 0, .slice none 0 0] 26))
    have HC := Lib.hid hc; clear hc
    go_wp2_with fail
    refine HC.out.mono ?_
    rintro _ wa ⟨rfl, hb_⟩
    clear HC
    have hbW3 := hbW2.trans (hb_.mono (hAB ▸ hbW2.size))
    have hB3 := hB.next hb_
    generalize w2.heap.size = OB at *
    have c2 : wa.cell? ⟨OB, 2, none⟩ = some (.slice none 0 0) := hB3.cell 2
    go_wp2_with fail
    go_ret
    exact ⟨rfl, hbW3⟩
end Go.Proofs.Ytcnppcddpcpeoaa
