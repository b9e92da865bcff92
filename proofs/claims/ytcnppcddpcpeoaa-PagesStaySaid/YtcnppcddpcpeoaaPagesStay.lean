/-
  The walk of PagesStay.
-/
import Derived.Test.YtcnppcddpcpeoaaBegun
import Derived.Test.YtcnppcddpcpeoaaLaws4
import Derived.Test.YtcnppcddpcpeoaaDropP
namespace Go.Proofs.Ytcnppcddpcpeoaa
open Go.RowKit

set_option maxRecDepth 100000 in
set_option maxHeartbeats 40000000 in
theorem pagesStay_any {W : World} {x : Ds} (hx : x.ok W) (root at_ v other where_ : Int) :
    Calls Try.prog 4 #[x.val, .int .i64 root, .int .i64 at_, .int .i64 v, .int .i64 other, .int .i64 where_] W fun e w' => e = .returned (.bool true) ∧ Below W.heap.size W w' := by
  obtain ⟨⟨pp, cp, pg⟩, ⟨pu, cu, us⟩, ⟨pr, cr, rs⟩⟩ := x
  have hbW := (Below.refl W.heap.size W).alloc (Nat.le_refl _) (.cells #[.slice pp pg.length cp, .slice pu us.length cu, .slice pr rs.length cr] 26)
  have hA := Blk.mk2 W #[.slice pp pg.length cp, .slice pu us.length cu, .slice pr rs.length cr] 26
  have hx1 := Ds.ok.st _ _ _ hx hbW
  clear hx
  generalize hs : Ds.c ⟨⟨pp, cp, pg⟩, ⟨pu, cu, us⟩, ⟨pr, cr, rs⟩⟩ = s at *
  have HS := Lib.hid hs; clear hs
  go_enter Try.func4, Try.ntmps4
  refine wp_seq_k fun K hK => ?_
  have HK := Lib.hid hK; clear hK
  go_wp2_with fail
  refine HK.out _ _ ?_
  clear HK K
  generalize W.alloc (.cells #[.slice pp pg.length cp, .slice pu us.length cu, .slice pr rs.length cr] 26) = w0 at *
  generalize hAB : W.heap.size = AB at *
  have hc := begun_any w0
  have HC := Lib.hid hc; clear hc
  have c_hA_0 : w0.cell? ⟨AB, 0, none⟩ = some (.slice pp pg.length cp) := hA.cell 0
  have c_hA_1 : w0.cell? ⟨AB, 1, none⟩ = some (.slice pu us.length cu) := hA.cell 1
  have c_hA_2 : w0.cell? ⟨AB, 2, none⟩ = some (.slice pr rs.length cr) := hA.cell 2
  go_wp2_with fail
  refine HC.out.mono ?_
  rintro _ w1 ⟨rfl, hb_⟩
  clear HC
  clear c_hA_0 c_hA_1 c_hA_2
  have hA' := hA.next hb_
  clear hA; have hA := hA'; clear hA'
  have hx1' := Ds.ok.st _ _ _ hx1 hb_
  clear hx1; have hx1 := hx1'; clear hx1'
  have hbW' := hbW.trans (hb_.mono (hAB ▸ hbW.size))
  clear hbW hb_; have hbW := hbW'; clear hbW'
  generalize hsr : setR s root at_ v = r at *
  have HSR := Lib.hid hsr; clear hsr
  generalize hf : askedC s other where_ = f at *
  generalize hwas : getC s other where_ = was at *
  have HF := Lib.hid hf; have HWAS := Lib.hid hwas; clear hf hwas
  generalize hk : thereL s [root] = k at *
  have HKK := Lib.hid hk; clear hk
  have hc := set_any hx1 root at_ v (r := r) (by rw [HS.out]; exact HSR.out)
  have HC := Lib.hid hc; clear hc
  have c_hA_0 : w1.cell? ⟨AB, 0, none⟩ = some (.slice pp pg.length cp) := hA.cell 0
  have c_hA_1 : w1.cell? ⟨AB, 1, none⟩ = some (.slice pu us.length cu) := hA.cell 1
  have c_hA_2 : w1.cell? ⟨AB, 2, none⟩ = some (.slice pr rs.length cr) := hA.cell 2
  go_wp2_with fail
  refine HC.out.mono ?_
  rintro _ w2 ⟨y, n, rfl, hy, hb_, h0, hne⟩
  clear HC
  clear c_hA_0 c_hA_1 c_hA_2
  have hA' := hA.next hb_
  clear hA; have hA := hA'; clear hA'
  have hx1' := Ds.ok.st _ _ _ hx1 hb_
  clear hx1; have hx1 := hx1'; clear hx1'
  have hbW' := hbW.trans (hb_.mono (hAB ▸ hbW.size))
  clear hbW hb_; have hbW := hbW'; clear hbW'
  rw [HS.out] at h0
  obtain ⟨⟨yp, yc, yl⟩, ⟨yq, yd, ym⟩, ⟨yr, ye, yn⟩⟩ := y
  have hal := (Below.refl w2.heap.size w2).alloc (Nat.le_refl _) (.cells #[.slice yp yl.length yc, .slice yq ym.length yd, .slice yr yn.length ye] 26)
  have hB := Blk.mk2 w2 #[.slice yp yl.length yc, .slice yq ym.length yd, .slice yr yn.length ye] 26
  have hA' := hA.next hal
  clear hA; have hA := hA'; clear hA'
  have hx1' := Ds.ok.st _ _ _ hx1 hal
  clear hx1; have hx1 := hx1'; clear hx1'
  have hy' := Ds.ok.st _ _ _ hy hal
  clear hy; have hy := hy'; clear hy'
  have hbW' := hbW.trans (hal.mono (hAB ▸ hbW.size))
  clear hbW hal; have hbW := hbW'; clear hbW'
  have hc := get_any hx1 other where_ (r := f) (v := was) (by rw [HS.out]; exact HF.out) (by rw [HS.out]; exact HWAS.out)
  have H0 := Lib.hid h0; have HNE := Lib.hid hne; clear h0 hne
  have HC := Lib.hid hc; clear hc
  have c_hA_0 : (w2.alloc (.cells #[.slice yp yl.length yc, .slice yq ym.length yd, .slice yr yn.length ye] 26)).cell? ⟨AB, 0, none⟩ = some (.slice pp pg.length cp) := hA.cell 0
  have c_hA_1 : (w2.alloc (.cells #[.slice yp yl.length yc, .slice yq ym.length yd, .slice yr yn.length ye] 26)).cell? ⟨AB, 1, none⟩ = some (.slice pu us.length cu) := hA.cell 1
  have c_hA_2 : (w2.alloc (.cells #[.slice yp yl.length yc, .slice yq ym.length yd, .slice yr yn.length ye] 26)).cell? ⟨AB, 2, none⟩ = some (.slice pr rs.length cr) := hA.cell 2
  have c_hB_0 : (w2.alloc (.cells #[.slice yp yl.length yc, .slice yq ym.length yd, .slice yr yn.length ye] 26)).cell? ⟨w2.heap.size, 0, none⟩ = some (.slice yp yl.length yc) := hB.cell 0
  have c_hB_1 : (w2.alloc (.cells #[.slice yp yl.length yc, .slice yq ym.length yd, .slice yr yn.length ye] 26)).cell? ⟨w2.heap.size, 1, none⟩ = some (.slice yq ym.length yd) := hB.cell 1
  have c_hB_2 : (w2.alloc (.cells #[.slice yp yl.length yc, .slice yq ym.length yd, .slice yr yn.length ye] 26)).cell? ⟨w2.heap.size, 2, none⟩ = some (.slice yr yn.length ye) := hB.cell 2
  go_wp2_with fail
  refine HC.out.mono ?_
  rintro _ wa ⟨rfl, hb_⟩
  clear HC
  clear c_hA_0 c_hA_1 c_hA_2 c_hB_0 c_hB_1 c_hB_2
  have hA' := hA.next hb_
  clear hA; have hA := hA'; clear hA'
  have hB' := hB.next hb_
  clear hB; have hB := hB'; clear hB'
  have hx1' := Ds.ok.st _ _ _ hx1 hb_
  clear hx1; have hx1 := hx1'; clear hx1'
  have hy' := Ds.ok.st _ _ _ hy hb_
  clear hy; have hy := hy'; clear hy'
  have hbW' := hbW.trans (hb_.mono (hAB ▸ hbW.size))
  clear hbW hb_; have hbW := hbW'; clear hbW'
  generalize w2.heap.size = OB at *
  by_cases hf0 : f = 0
  · subst hf0
    by_cases hr0 : r = 0
    · subst hr0
      obtain ⟨hyc, hn⟩ := H0.out rfl
      obtain ⟨t, ht, n', hn', t1, t2, t3, t4, t5, t6⟩ := stay_set (other := other) (where_ := where_) HSR.out
      have hnn : n = n' := hn.trans hn'
      have hyt : Ds.c ⟨⟨yp, yc, yl⟩, ⟨yq, yd, ym⟩, ⟨yr, ye, yn⟩⟩ = t := hyc.trans ht
      clear hn hn' hyc ht H0 HNE
      subst hnn
      have HYT := Lib.hid hyt; have T1 := Lib.hid t1; have T2 := Lib.hid t2; have T3 := Lib.hid t3; clear hyt t1 t2 t3
      generalize hh : askedC s root where_ = h at *
      generalize hav : getC s root where_ = av at *
      generalize hbv : getC t n where_ = bv at *
      have HH := Lib.hid hh; have HAV := Lib.hid hav; have HBV := Lib.hid hbv; have T4 := Lib.hid t4; clear hh hav hbv t4
      obtain ⟨hj1, hj2⟩ := t6 HF.out
      rw [HWAS.out] at hj2
      have J1 := Lib.hid hj1; have J2 := Lib.hid hj2; clear hj1 hj2 t6
      by_cases hwa : where_ = at_
      · have k5 : (where_ != at_) = false := by simp [hwa]
        have HWA := Lib.hid hwa; clear hwa t5
        have hc := get_any hy n at_ (r := 0) (v := v) (by rw [HYT.out]; exact T2.out) (by rw [HYT.out]; exact T3.out)
        have HC := Lib.hid hc; clear hc
        have c_hA_0 : wa.cell? ⟨AB, 0, none⟩ = some (.slice pp pg.length cp) := hA.cell 0
        have c_hA_1 : wa.cell? ⟨AB, 1, none⟩ = some (.slice pu us.length cu) := hA.cell 1
        have c_hA_2 : wa.cell? ⟨AB, 2, none⟩ = some (.slice pr rs.length cr) := hA.cell 2
        have c_hB_0 : wa.cell? ⟨OB, 0, none⟩ = some (.slice yp yl.length yc) := hB.cell 0
        have c_hB_1 : wa.cell? ⟨OB, 1, none⟩ = some (.slice yq ym.length yd) := hB.cell 1
        have c_hB_2 : wa.cell? ⟨OB, 2, none⟩ = some (.slice yr yn.length ye) := hB.cell 2
        go_wp2_with fail
        refine HC.out.mono ?_
        rintro _ w11 ⟨rfl, hb_⟩
        clear HC
        clear c_hA_0 c_hA_1 c_hA_2 c_hB_0 c_hB_1 c_hB_2
        have hA' := hA.next hb_
        clear hA; have hA := hA'; clear hA'
        have hB' := hB.next hb_
        clear hB; have hB := hB'; clear hB'
        have hx1' := Ds.ok.st _ _ _ hx1 hb_
        clear hx1; have hx1 := hx1'; clear hx1'
        have hy' := Ds.ok.st _ _ _ hy hb_
        clear hy; have hy := hy'; clear hy'
        have hbW' := hbW.trans (hb_.mono (hAB ▸ hbW.size))
        clear hbW hb_; have hbW := hbW'; clear hbW'
        have hc := get_any hx1 root where_ (r := h) (v := av) (by rw [HS.out]; exact HH.out) (by rw [HS.out]; exact HAV.out)
        have HC := Lib.hid hc; clear hc
        have c_hA_0 : w11.cell? ⟨AB, 0, none⟩ = some (.slice pp pg.length cp) := hA.cell 0
        have c_hA_1 : w11.cell? ⟨AB, 1, none⟩ = some (.slice pu us.length cu) := hA.cell 1
        have c_hA_2 : w11.cell? ⟨AB, 2, none⟩ = some (.slice pr rs.length cr) := hA.cell 2
        have c_hB_0 : w11.cell? ⟨OB, 0, none⟩ = some (.slice yp yl.length yc) := hB.cell 0
        have c_hB_1 : w11.cell? ⟨OB, 1, none⟩ = some (.slice yq ym.length yd) := hB.cell 1
        have c_hB_2 : w11.cell? ⟨OB, 2, none⟩ = some (.slice yr yn.length ye) := hB.cell 2
        go_wp2_with fail
        refine HC.out.mono ?_
        rintro _ w12 ⟨rfl, hb_⟩
        clear HC
        clear c_hA_0 c_hA_1 c_hA_2 c_hB_0 c_hB_1 c_hB_2
        have hA' := hA.next hb_
        clear hA; have hA := hA'; clear hA'
        have hB' := hB.next hb_
        clear hB; have hB := hB'; clear hB'
        have hx1' := Ds.ok.st _ _ _ hx1 hb_
        clear hx1; have hx1 := hx1'; clear hx1'
        have hy' := Ds.ok.st _ _ _ hy hb_
        clear hy; have hy := hy'; clear hy'
        have hbW' := hbW.trans (hb_.mono (hAB ▸ hbW.size))
        clear hbW hb_; have hbW := hbW'; clear hbW'
        have hc := get_any hy n where_ (r := h) (v := bv) (by rw [HYT.out]; exact T4.out) (by rw [HYT.out]; exact HBV.out)
        have HC := Lib.hid hc; clear hc
        have c_hA_0 : w12.cell? ⟨AB, 0, none⟩ = some (.slice pp pg.length cp) := hA.cell 0
        have c_hA_1 : w12.cell? ⟨AB, 1, none⟩ = some (.slice pu us.length cu) := hA.cell 1
        have c_hA_2 : w12.cell? ⟨AB, 2, none⟩ = some (.slice pr rs.length cr) := hA.cell 2
        have c_hB_0 : w12.cell? ⟨OB, 0, none⟩ = some (.slice yp yl.length yc) := hB.cell 0
        have c_hB_1 : w12.cell? ⟨OB, 1, none⟩ = some (.slice yq ym.length yd) := hB.cell 1
        have c_hB_2 : w12.cell? ⟨OB, 2, none⟩ = some (.slice yr yn.length ye) := hB.cell 2
        go_wp2_with fail
        refine HC.out.mono ?_
        rintro _ w13 ⟨rfl, hb_⟩
        clear HC
        clear c_hA_0 c_hA_1 c_hA_2 c_hB_0 c_hB_1 c_hB_2
        have hA' := hA.next hb_
        clear hA; have hA := hA'; clear hA'
        have hB' := hB.next hb_
        clear hB; have hB := hB'; clear hB'
        have hx1' := Ds.ok.st _ _ _ hx1 hb_
        clear hx1; have hx1 := hx1'; clear hx1'
        have hy' := Ds.ok.st _ _ _ hy hb_
        clear hy; have hy := hy'; clear hy'
        have hbW' := hbW.trans (hb_.mono (hAB ▸ hbW.size))
        clear hbW hb_; have hbW := hbW'; clear hbW'
        have hc := get_any hy other where_ (r := 0) (v := was) (by rw [HYT.out]; exact J1.out) (by rw [HYT.out]; exact J2.out)
        have HC := Lib.hid hc; clear hc
        have c_hA_0 : w13.cell? ⟨AB, 0, none⟩ = some (.slice pp pg.length cp) := hA.cell 0
        have c_hA_1 : w13.cell? ⟨AB, 1, none⟩ = some (.slice pu us.length cu) := hA.cell 1
        have c_hA_2 : w13.cell? ⟨AB, 2, none⟩ = some (.slice pr rs.length cr) := hA.cell 2
        have c_hB_0 : w13.cell? ⟨OB, 0, none⟩ = some (.slice yp yl.length yc) := hB.cell 0
        have c_hB_1 : w13.cell? ⟨OB, 1, none⟩ = some (.slice yq ym.length yd) := hB.cell 1
        have c_hB_2 : w13.cell? ⟨OB, 2, none⟩ = some (.slice yr yn.length ye) := hB.cell 2
        go_wp2_with fail
        refine HC.out.mono ?_
        rintro _ w14 ⟨rfl, hb_⟩
        clear HC
        clear c_hA_0 c_hA_1 c_hA_2 c_hB_0 c_hB_1 c_hB_2
        have hA' := hA.next hb_
        clear hA; have hA := hA'; clear hA'
        have hB' := hB.next hb_
        clear hB; have hB := hB'; clear hB'
        have hx1' := Ds.ok.st _ _ _ hx1 hb_
        clear hx1; have hx1 := hx1'; clear hx1'
        have hy' := Ds.ok.st _ _ _ hy hb_
        clear hy; have hy := hy'; clear hy'
        have hbW' := hbW.trans (hb_.mono (hAB ▸ hbW.size))
        clear hbW hb_; have hbW := hbW'; clear hbW'
        have hc := check_is hy (r := 0) (by rw [HYT.out]; exact T1.out)
        have HC := Lib.hid hc; clear hc
        have c_hA_0 : w14.cell? ⟨AB, 0, none⟩ = some (.slice pp pg.length cp) := hA.cell 0
        have c_hA_1 : w14.cell? ⟨AB, 1, none⟩ = some (.slice pu us.length cu) := hA.cell 1
        have c_hA_2 : w14.cell? ⟨AB, 2, none⟩ = some (.slice pr rs.length cr) := hA.cell 2
        have c_hB_0 : w14.cell? ⟨OB, 0, none⟩ = some (.slice yp yl.length yc) := hB.cell 0
        have c_hB_1 : w14.cell? ⟨OB, 1, none⟩ = some (.slice yq ym.length yd) := hB.cell 1
        have c_hB_2 : w14.cell? ⟨OB, 2, none⟩ = some (.slice yr yn.length ye) := hB.cell 2
        go_wp2_with fail
        refine HC.out.mono ?_
        rintro _ w15 ⟨rfl, hb_⟩
        clear HC
        clear c_hA_0 c_hA_1 c_hA_2 c_hB_0 c_hB_1 c_hB_2
        have hA' := hA.next hb_
        clear hA; have hA := hA'; clear hA'
        have hB' := hB.next hb_
        clear hB; have hB := hB'; clear hB'
        have hx1' := Ds.ok.st _ _ _ hx1 hb_
        clear hx1; have hx1 := hx1'; clear hx1'
        have hy' := Ds.ok.st _ _ _ hy hb_
        clear hy; have hy := hy'; clear hy'
        have hbW' := hbW.trans (hb_.mono (hAB ▸ hbW.size))
        clear hbW hb_; have hbW := hbW'; clear hbW'
        clear J1 J2
        have hc := drop_any hx1 root (r := k) (by rw [HS.out]; exact HKK.out)
        have HC := Lib.hid hc; clear hc
        have c_hA_0 : w15.cell? ⟨AB, 0, none⟩ = some (.slice pp pg.length cp) := hA.cell 0
        have c_hA_1 : w15.cell? ⟨AB, 1, none⟩ = some (.slice pu us.length cu) := hA.cell 1
        have c_hA_2 : w15.cell? ⟨AB, 2, none⟩ = some (.slice pr rs.length cr) := hA.cell 2
        go_wp2_with fail
        refine HC.out.mono ?_
        rintro _ w16 ⟨z, rfl, hz, hb_, d0, dne⟩
        clear HC
        clear c_hA_0 c_hA_1 c_hA_2
        have hA' := hA.next hb_
        clear hA; have hA := hA'; clear hA'
        have hx1' := Ds.ok.st _ _ _ hx1 hb_
        clear hx1; have hx1 := hx1'; clear hx1'
        have hbW' := hbW.trans (hb_.mono (hAB ▸ hbW.size))
        clear hbW hb_; have hbW := hbW'; clear hbW'
        rw [HS.out] at d0
        have D0 := Lib.hid d0; clear d0 dne
        obtain ⟨⟨zp, zc, zl⟩, ⟨zq, zd, zm⟩, ⟨zr, ze, zn⟩⟩ := z
        have hal := (Below.refl w16.heap.size w16).alloc (Nat.le_refl _) (.cells #[.slice zp zl.length zc, .slice zq zm.length zd, .slice zr zn.length ze] 26)
        have hD := Blk.mk2 w16 #[.slice zp zl.length zc, .slice zq zm.length zd, .slice zr zn.length ze] 26
        have hA' := hA.next hal
        clear hA; have hA := hA'; clear hA'
        have hx1' := Ds.ok.st _ _ _ hx1 hal
        clear hx1; have hx1 := hx1'; clear hx1'
        have hz' := Ds.ok.st _ _ _ hz hal
        clear hz; have hz := hz'; clear hz'
        have hbW' := hbW.trans (hal.mono (hAB ▸ hbW.size))
        clear hbW hal; have hbW := hbW'; clear hbW'
        by_cases hk0 : k = 0
        · subst hk0
          obtain ⟨d, hd1, hd2, hd3, hd4⟩ := stay_drop (other := other) (where_ := where_) HKK.out
          have hzd : Ds.c ⟨⟨zp, zc, zl⟩, ⟨zq, zd, zm⟩, ⟨zr, ze, zn⟩⟩ = d := (D0.out rfl).trans hd1
          have HZD := Lib.hid hzd; have HD2 := Lib.hid hd2; have HD3 := Lib.hid hd3; clear hzd hd1 hd2 hd3 D0
          by_cases hor : other = root
          · have k8 : (other != root) = false := by simp [hor]
            have HOR := Lib.hid hor; clear hor
            generalize hj1 : askedC d other where_ = jj at *
            generalize hj2 : getC d other where_ = nw at *
            have J1 := Lib.hid hj1; have J2 := Lib.hid hj2; clear hj1 hj2 hd4
            have hc := get_any hz other where_ (r := jj) (v := nw) (by rw [HZD.out]; exact J1.out) (by rw [HZD.out]; exact J2.out)
            have HC := Lib.hid hc; clear hc
            have c_hA_0 : (w16.alloc (.cells #[.slice zp zl.length zc, .slice zq zm.length zd, .slice zr zn.length ze] 26)).cell? ⟨AB, 0, none⟩ = some (.slice pp pg.length cp) := hA.cell 0
            have c_hA_1 : (w16.alloc (.cells #[.slice zp zl.length zc, .slice zq zm.length zd, .slice zr zn.length ze] 26)).cell? ⟨AB, 1, none⟩ = some (.slice pu us.length cu) := hA.cell 1
            have c_hA_2 : (w16.alloc (.cells #[.slice zp zl.length zc, .slice zq zm.length zd, .slice zr zn.length ze] 26)).cell? ⟨AB, 2, none⟩ = some (.slice pr rs.length cr) := hA.cell 2
            have c_hD_0 : (w16.alloc (.cells #[.slice zp zl.length zc, .slice zq zm.length zd, .slice zr zn.length ze] 26)).cell? ⟨w16.heap.size, 0, none⟩ = some (.slice zp zl.length zc) := hD.cell 0
            have c_hD_1 : (w16.alloc (.cells #[.slice zp zl.length zc, .slice zq zm.length zd, .slice zr zn.length ze] 26)).cell? ⟨w16.heap.size, 1, none⟩ = some (.slice zq zm.length zd) := hD.cell 1
            have c_hD_2 : (w16.alloc (.cells #[.slice zp zl.length zc, .slice zq zm.length zd, .slice zr zn.length ze] 26)).cell? ⟨w16.heap.size, 2, none⟩ = some (.slice zr zn.length ze) := hD.cell 2
            go_wp2_with fail
            refine HC.out.mono ?_
            rintro _ wb ⟨rfl, hb_⟩
            clear HC
            clear c_hA_0 c_hA_1 c_hA_2 c_hD_0 c_hD_1 c_hD_2
            have hA' := hA.next hb_
            clear hA; have hA := hA'; clear hA'
            have hD' := hD.next hb_
            clear hD; have hD := hD'; clear hD'
            have hx1' := Ds.ok.st _ _ _ hx1 hb_
            clear hx1; have hx1 := hx1'; clear hx1'
            have hz' := Ds.ok.st _ _ _ hz hb_
            clear hz; have hz := hz'; clear hz'
            have hbW' := hbW.trans (hb_.mono (hAB ▸ hbW.size))
            clear hbW hb_; have hbW := hbW'; clear hbW'
            generalize w16.heap.size = OD at *
            generalize hvg : getC d root 0 = vg at *
            have HVG := Lib.hid hvg; clear hvg
            have hc := get_any hz root 0 (r := 5) (v := vg) (by rw [HZD.out]; exact HD3.out) (by rw [HZD.out]; exact HVG.out)
            have HC := Lib.hid hc; clear hc
            have c_hA_0 : wb.cell? ⟨AB, 0, none⟩ = some (.slice pp pg.length cp) := hA.cell 0
            have c_hA_1 : wb.cell? ⟨AB, 1, none⟩ = some (.slice pu us.length cu) := hA.cell 1
            have c_hA_2 : wb.cell? ⟨AB, 2, none⟩ = some (.slice pr rs.length cr) := hA.cell 2
            have c_hD_0 : wb.cell? ⟨OD, 0, none⟩ = some (.slice zp zl.length zc) := hD.cell 0
            have c_hD_1 : wb.cell? ⟨OD, 1, none⟩ = some (.slice zq zm.length zd) := hD.cell 1
            have c_hD_2 : wb.cell? ⟨OD, 2, none⟩ = some (.slice zr zn.length ze) := hD.cell 2
            go_wp2_with fail
            refine HC.out.mono ?_
            rintro _ w31 ⟨rfl, hb_⟩
            clear HC
            clear c_hA_0 c_hA_1 c_hA_2 c_hD_0 c_hD_1 c_hD_2
            have hA' := hA.next hb_
            clear hA; have hA := hA'; clear hA'
            have hD' := hD.next hb_
            clear hD; have hD := hD'; clear hD'
            have hx1' := Ds.ok.st _ _ _ hx1 hb_
            clear hx1; have hx1 := hx1'; clear hx1'
            have hz' := Ds.ok.st _ _ _ hz hb_
            clear hz; have hz := hz'; clear hz'
            have hbW' := hbW.trans (hb_.mono (hAB ▸ hbW.size))
            clear hbW hb_; have hbW := hbW'; clear hbW'
            have hc := check_is hz (r := 0) (by rw [HZD.out]; exact HD2.out)
            have HC := Lib.hid hc; clear hc
            have c_hA_0 : w31.cell? ⟨AB, 0, none⟩ = some (.slice pp pg.length cp) := hA.cell 0
            have c_hA_1 : w31.cell? ⟨AB, 1, none⟩ = some (.slice pu us.length cu) := hA.cell 1
            have c_hA_2 : w31.cell? ⟨AB, 2, none⟩ = some (.slice pr rs.length cr) := hA.cell 2
            have c_hD_0 : w31.cell? ⟨OD, 0, none⟩ = some (.slice zp zl.length zc) := hD.cell 0
            have c_hD_1 : w31.cell? ⟨OD, 1, none⟩ = some (.slice zq zm.length zd) := hD.cell 1
            have c_hD_2 : w31.cell? ⟨OD, 2, none⟩ = some (.slice zr zn.length ze) := hD.cell 2
            go_wp2_with fail
            refine HC.out.mono ?_
            rintro _ w32 ⟨rfl, hb_⟩
            clear HC
            clear c_hA_0 c_hA_1 c_hA_2 c_hD_0 c_hD_1 c_hD_2
            have hA' := hA.next hb_
            clear hA; have hA := hA'; clear hA'
            have hD' := hD.next hb_
            clear hD; have hD := hD'; clear hD'
            have hx1' := Ds.ok.st _ _ _ hx1 hb_
            clear hx1; have hx1 := hx1'; clear hx1'
            have hz' := Ds.ok.st _ _ _ hz hb_
            clear hz; have hz := hz'; clear hz'
            have hbW' := hbW.trans (hb_.mono (hAB ▸ hbW.size))
            clear hbW hb_; have hbW := hbW'; clear hbW'
            have hc := begun_any w32
            have HC := Lib.hid hc; clear hc
            have c_hA_0 : w32.cell? ⟨AB, 0, none⟩ = some (.slice pp pg.length cp) := hA.cell 0
            have c_hA_1 : w32.cell? ⟨AB, 1, none⟩ = some (.slice pu us.length cu) := hA.cell 1
            have c_hA_2 : w32.cell? ⟨AB, 2, none⟩ = some (.slice pr rs.length cr) := hA.cell 2
            have c_hD_0 : w32.cell? ⟨OD, 0, none⟩ = some (.slice zp zl.length zc) := hD.cell 0
            have c_hD_1 : w32.cell? ⟨OD, 1, none⟩ = some (.slice zq zm.length zd) := hD.cell 1
            have c_hD_2 : w32.cell? ⟨OD, 2, none⟩ = some (.slice zr zn.length ze) := hD.cell 2
            go_wp2_with fail
            refine HC.out.mono ?_
            rintro _ w33 ⟨rfl, hb_⟩
            clear HC
            clear c_hA_0 c_hA_1 c_hA_2 c_hD_0 c_hD_1 c_hD_2
            have hA' := hA.next hb_
            clear hA; have hA := hA'; clear hA'
            have hD' := hD.next hb_
            clear hD; have hD := hD'; clear hD'
            have hx1' := Ds.ok.st _ _ _ hx1 hb_
            clear hx1; have hx1 := hx1'; clear hx1'
            have hz' := Ds.ok.st _ _ _ hz hb_
            clear hz; have hz := hz'; clear hz'
            have hbW' := hbW.trans (hb_.mono (hAB ▸ hbW.size))
            clear hbW hb_; have hbW := hbW'; clear hbW'
            go_wp2_with fail
            go_ret
            exact ⟨rfl, hbW⟩
          · have k8 : (other != root) = true := by simpa using hor
            obtain ⟨hj1, hj2⟩ := hd4 HF.out hor
            rw [HWAS.out] at hj2
            have J1 := Lib.hid hj1; have J2 := Lib.hid hj2; clear hj1 hj2 hd4 hor
            have hc := get_any hz other where_ (r := 0) (v := was) (by rw [HZD.out]; exact J1.out) (by rw [HZD.out]; exact J2.out)
            have HC := Lib.hid hc; clear hc
            have c_hA_0 : (w16.alloc (.cells #[.slice zp zl.length zc, .slice zq zm.length zd, .slice zr zn.length ze] 26)).cell? ⟨AB, 0, none⟩ = some (.slice pp pg.length cp) := hA.cell 0
            have c_hA_1 : (w16.alloc (.cells #[.slice zp zl.length zc, .slice zq zm.length zd, .slice zr zn.length ze] 26)).cell? ⟨AB, 1, none⟩ = some (.slice pu us.length cu) := hA.cell 1
            have c_hA_2 : (w16.alloc (.cells #[.slice zp zl.length zc, .slice zq zm.length zd, .slice zr zn.length ze] 26)).cell? ⟨AB, 2, none⟩ = some (.slice pr rs.length cr) := hA.cell 2
            have c_hD_0 : (w16.alloc (.cells #[.slice zp zl.length zc, .slice zq zm.length zd, .slice zr zn.length ze] 26)).cell? ⟨w16.heap.size, 0, none⟩ = some (.slice zp zl.length zc) := hD.cell 0
            have c_hD_1 : (w16.alloc (.cells #[.slice zp zl.length zc, .slice zq zm.length zd, .slice zr zn.length ze] 26)).cell? ⟨w16.heap.size, 1, none⟩ = some (.slice zq zm.length zd) := hD.cell 1
            have c_hD_2 : (w16.alloc (.cells #[.slice zp zl.length zc, .slice zq zm.length zd, .slice zr zn.length ze] 26)).cell? ⟨w16.heap.size, 2, none⟩ = some (.slice zr zn.length ze) := hD.cell 2
            go_wp2_with fail
            refine HC.out.mono ?_
            rintro _ wb ⟨rfl, hb_⟩
            clear HC
            clear c_hA_0 c_hA_1 c_hA_2 c_hD_0 c_hD_1 c_hD_2
            have hA' := hA.next hb_
            clear hA; have hA := hA'; clear hA'
            have hD' := hD.next hb_
            clear hD; have hD := hD'; clear hD'
            have hx1' := Ds.ok.st _ _ _ hx1 hb_
            clear hx1; have hx1 := hx1'; clear hx1'
            have hz' := Ds.ok.st _ _ _ hz hb_
            clear hz; have hz := hz'; clear hz'
            have hbW' := hbW.trans (hb_.mono (hAB ▸ hbW.size))
            clear hbW hb_; have hbW := hbW'; clear hbW'
            generalize w16.heap.size = OD at *
            generalize hvg : getC d root 0 = vg at *
            have HVG := Lib.hid hvg; clear hvg
            have hc := get_any hz root 0 (r := 5) (v := vg) (by rw [HZD.out]; exact HD3.out) (by rw [HZD.out]; exact HVG.out)
            have HC := Lib.hid hc; clear hc
            have c_hA_0 : wb.cell? ⟨AB, 0, none⟩ = some (.slice pp pg.length cp) := hA.cell 0
            have c_hA_1 : wb.cell? ⟨AB, 1, none⟩ = some (.slice pu us.length cu) := hA.cell 1
            have c_hA_2 : wb.cell? ⟨AB, 2, none⟩ = some (.slice pr rs.length cr) := hA.cell 2
            have c_hD_0 : wb.cell? ⟨OD, 0, none⟩ = some (.slice zp zl.length zc) := hD.cell 0
            have c_hD_1 : wb.cell? ⟨OD, 1, none⟩ = some (.slice zq zm.length zd) := hD.cell 1
            have c_hD_2 : wb.cell? ⟨OD, 2, none⟩ = some (.slice zr zn.length ze) := hD.cell 2
            go_wp2_with fail
            refine HC.out.mono ?_
            rintro _ w31 ⟨rfl, hb_⟩
            clear HC
            clear c_hA_0 c_hA_1 c_hA_2 c_hD_0 c_hD_1 c_hD_2
            have hA' := hA.next hb_
            clear hA; have hA := hA'; clear hA'
            have hD' := hD.next hb_
            clear hD; have hD := hD'; clear hD'
            have hx1' := Ds.ok.st _ _ _ hx1 hb_
            clear hx1; have hx1 := hx1'; clear hx1'
            have hz' := Ds.ok.st _ _ _ hz hb_
            clear hz; have hz := hz'; clear hz'
            have hbW' := hbW.trans (hb_.mono (hAB ▸ hbW.size))
            clear hbW hb_; have hbW := hbW'; clear hbW'
            have hc := check_is hz (r := 0) (by rw [HZD.out]; exact HD2.out)
            have HC := Lib.hid hc; clear hc
            have c_hA_0 : w31.cell? ⟨AB, 0, none⟩ = some (.slice pp pg.length cp) := hA.cell 0
            have c_hA_1 : w31.cell? ⟨AB, 1, none⟩ = some (.slice pu us.length cu) := hA.cell 1
            have c_hA_2 : w31.cell? ⟨AB, 2, none⟩ = some (.slice pr rs.length cr) := hA.cell 2
            have c_hD_0 : w31.cell? ⟨OD, 0, none⟩ = some (.slice zp zl.length zc) := hD.cell 0
            have c_hD_1 : w31.cell? ⟨OD, 1, none⟩ = some (.slice zq zm.length zd) := hD.cell 1
            have c_hD_2 : w31.cell? ⟨OD, 2, none⟩ = some (.slice zr zn.length ze) := hD.cell 2
            go_wp2_with fail
            refine HC.out.mono ?_
            rintro _ w32 ⟨rfl, hb_⟩
            clear HC
            clear c_hA_0 c_hA_1 c_hA_2 c_hD_0 c_hD_1 c_hD_2
            have hA' := hA.next hb_
            clear hA; have hA := hA'; clear hA'
            have hD' := hD.next hb_
            clear hD; have hD := hD'; clear hD'
            have hx1' := Ds.ok.st _ _ _ hx1 hb_
            clear hx1; have hx1 := hx1'; clear hx1'
            have hz' := Ds.ok.st _ _ _ hz hb_
            clear hz; have hz := hz'; clear hz'
            have hbW' := hbW.trans (hb_.mono (hAB ▸ hbW.size))
            clear hbW hb_; have hbW := hbW'; clear hbW'
            have hc := begun_any w32
            have HC := Lib.hid hc; clear hc
            have c_hA_0 : w32.cell? ⟨AB, 0, none⟩ = some (.slice pp pg.length cp) := hA.cell 0
            have c_hA_1 : w32.cell? ⟨AB, 1, none⟩ = some (.slice pu us.length cu) := hA.cell 1
            have c_hA_2 : w32.cell? ⟨AB, 2, none⟩ = some (.slice pr rs.length cr) := hA.cell 2
            have c_hD_0 : w32.cell? ⟨OD, 0, none⟩ = some (.slice zp zl.length zc) := hD.cell 0
            have c_hD_1 : w32.cell? ⟨OD, 1, none⟩ = some (.slice zq zm.length zd) := hD.cell 1
            have c_hD_2 : w32.cell? ⟨OD, 2, none⟩ = some (.slice zr zn.length ze) := hD.cell 2
            go_wp2_with fail
            refine HC.out.mono ?_
            rintro _ w33 ⟨rfl, hb_⟩
            clear HC
            clear c_hA_0 c_hA_1 c_hA_2 c_hD_0 c_hD_1 c_hD_2
            have hA' := hA.next hb_
            clear hA; have hA := hA'; clear hA'
            have hD' := hD.next hb_
            clear hD; have hD := hD'; clear hD'
            have hx1' := Ds.ok.st _ _ _ hx1 hb_
            clear hx1; have hx1 := hx1'; clear hx1'
            have hz' := Ds.ok.st _ _ _ hz hb_
            clear hz; have hz := hz'; clear hz'
            have hbW' := hbW.trans (hb_.mono (hAB ▸ hbW.size))
            clear hbW hb_; have hbW := hbW'; clear hbW'
            go_wp2_with fail
            go_ret
            exact ⟨rfl, hbW⟩
        · have k7 : (k == 0) = false := by simpa using hk0
          have HK0 := Lib.hid hk0; clear hk0
          have hc := begun_any (w16.alloc (.cells #[.slice zp zl.length zc, .slice zq zm.length zd, .slice zr zn.length ze] 26))
          have HC := Lib.hid hc; clear hc
          go_wp2_with fail
          refine HC.out.mono ?_
          rintro _ wb ⟨rfl, hb_⟩
          clear HC
          have hbW' := hbW.trans (hb_.mono (hAB ▸ hbW.size))
          go_wp2_with fail
          go_ret
          exact ⟨rfl, hbW'⟩
      · have k5 : (where_ != at_) = true := by simpa using hwa
        have hbe := t5 hwa
        have HWA := Lib.hid hwa; clear hwa t5
        subst hbe
        have hc := get_any hy n at_ (r := 0) (v := v) (by rw [HYT.out]; exact T2.out) (by rw [HYT.out]; exact T3.out)
        have HC := Lib.hid hc; clear hc
        have c_hA_0 : wa.cell? ⟨AB, 0, none⟩ = some (.slice pp pg.length cp) := hA.cell 0
        have c_hA_1 : wa.cell? ⟨AB, 1, none⟩ = some (.slice pu us.length cu) := hA.cell 1
        have c_hA_2 : wa.cell? ⟨AB, 2, none⟩ = some (.slice pr rs.length cr) := hA.cell 2
        have c_hB_0 : wa.cell? ⟨OB, 0, none⟩ = some (.slice yp yl.length yc) := hB.cell 0
        have c_hB_1 : wa.cell? ⟨OB, 1, none⟩ = some (.slice yq ym.length yd) := hB.cell 1
        have c_hB_2 : wa.cell? ⟨OB, 2, none⟩ = some (.slice yr yn.length ye) := hB.cell 2
        go_wp2_with fail
        refine HC.out.mono ?_
        rintro _ w11 ⟨rfl, hb_⟩
        clear HC
        clear c_hA_0 c_hA_1 c_hA_2 c_hB_0 c_hB_1 c_hB_2
        have hA' := hA.next hb_
        clear hA; have hA := hA'; clear hA'
        have hB' := hB.next hb_
        clear hB; have hB := hB'; clear hB'
        have hx1' := Ds.ok.st _ _ _ hx1 hb_
        clear hx1; have hx1 := hx1'; clear hx1'
        have hy' := Ds.ok.st _ _ _ hy hb_
        clear hy; have hy := hy'; clear hy'
        have hbW' := hbW.trans (hb_.mono (hAB ▸ hbW.size))
        clear hbW hb_; have hbW := hbW'; clear hbW'
        have hc := get_any hx1 root where_ (r := h) (v := bv) (by rw [HS.out]; exact HH.out) (by rw [HS.out]; exact HAV.out)
        have HC := Lib.hid hc; clear hc
        have c_hA_0 : w11.cell? ⟨AB, 0, none⟩ = some (.slice pp pg.length cp) := hA.cell 0
        have c_hA_1 : w11.cell? ⟨AB, 1, none⟩ = some (.slice pu us.length cu) := hA.cell 1
        have c_hA_2 : w11.cell? ⟨AB, 2, none⟩ = some (.slice pr rs.length cr) := hA.cell 2
        have c_hB_0 : w11.cell? ⟨OB, 0, none⟩ = some (.slice yp yl.length yc) := hB.cell 0
        have c_hB_1 : w11.cell? ⟨OB, 1, none⟩ = some (.slice yq ym.length yd) := hB.cell 1
        have c_hB_2 : w11.cell? ⟨OB, 2, none⟩ = some (.slice yr yn.length ye) := hB.cell 2
        go_wp2_with fail
        refine HC.out.mono ?_
        rintro _ w12 ⟨rfl, hb_⟩
        clear HC
        clear c_hA_0 c_hA_1 c_hA_2 c_hB_0 c_hB_1 c_hB_2
        have hA' := hA.next hb_
        clear hA; have hA := hA'; clear hA'
        have hB' := hB.next hb_
        clear hB; have hB := hB'; clear hB'
        have hx1' := Ds.ok.st _ _ _ hx1 hb_
        clear hx1; have hx1 := hx1'; clear hx1'
        have hy' := Ds.ok.st _ _ _ hy hb_
        clear hy; have hy := hy'; clear hy'
        have hbW' := hbW.trans (hb_.mono (hAB ▸ hbW.size))
        clear hbW hb_; have hbW := hbW'; clear hbW'
        have hc := get_any hy n where_ (r := h) (v := bv) (by rw [HYT.out]; exact T4.out) (by rw [HYT.out]; exact HBV.out)
        have HC := Lib.hid hc; clear hc
        have c_hA_0 : w12.cell? ⟨AB, 0, none⟩ = some (.slice pp pg.length cp) := hA.cell 0
        have c_hA_1 : w12.cell? ⟨AB, 1, none⟩ = some (.slice pu us.length cu) := hA.cell 1
        have c_hA_2 : w12.cell? ⟨AB, 2, none⟩ = some (.slice pr rs.length cr) := hA.cell 2
        have c_hB_0 : w12.cell? ⟨OB, 0, none⟩ = some (.slice yp yl.length yc) := hB.cell 0
        have c_hB_1 : w12.cell? ⟨OB, 1, none⟩ = some (.slice yq ym.length yd) := hB.cell 1
        have c_hB_2 : w12.cell? ⟨OB, 2, none⟩ = some (.slice yr yn.length ye) := hB.cell 2
        go_wp2_with fail
        refine HC.out.mono ?_
        rintro _ w13 ⟨rfl, hb_⟩
        clear HC
        clear c_hA_0 c_hA_1 c_hA_2 c_hB_0 c_hB_1 c_hB_2
        have hA' := hA.next hb_
        clear hA; have hA := hA'; clear hA'
        have hB' := hB.next hb_
        clear hB; have hB := hB'; clear hB'
        have hx1' := Ds.ok.st _ _ _ hx1 hb_
        clear hx1; have hx1 := hx1'; clear hx1'
        have hy' := Ds.ok.st _ _ _ hy hb_
        clear hy; have hy := hy'; clear hy'
        have hbW' := hbW.trans (hb_.mono (hAB ▸ hbW.size))
        clear hbW hb_; have hbW := hbW'; clear hbW'
        have hc := get_any hy other where_ (r := 0) (v := was) (by rw [HYT.out]; exact J1.out) (by rw [HYT.out]; exact J2.out)
        have HC := Lib.hid hc; clear hc
        have c_hA_0 : w13.cell? ⟨AB, 0, none⟩ = some (.slice pp pg.length cp) := hA.cell 0
        have c_hA_1 : w13.cell? ⟨AB, 1, none⟩ = some (.slice pu us.length cu) := hA.cell 1
        have c_hA_2 : w13.cell? ⟨AB, 2, none⟩ = some (.slice pr rs.length cr) := hA.cell 2
        have c_hB_0 : w13.cell? ⟨OB, 0, none⟩ = some (.slice yp yl.length yc) := hB.cell 0
        have c_hB_1 : w13.cell? ⟨OB, 1, none⟩ = some (.slice yq ym.length yd) := hB.cell 1
        have c_hB_2 : w13.cell? ⟨OB, 2, none⟩ = some (.slice yr yn.length ye) := hB.cell 2
        go_wp2_with fail
        refine HC.out.mono ?_
        rintro _ w14 ⟨rfl, hb_⟩
        clear HC
        clear c_hA_0 c_hA_1 c_hA_2 c_hB_0 c_hB_1 c_hB_2
        have hA' := hA.next hb_
        clear hA; have hA := hA'; clear hA'
        have hB' := hB.next hb_
        clear hB; have hB := hB'; clear hB'
        have hx1' := Ds.ok.st _ _ _ hx1 hb_
        clear hx1; have hx1 := hx1'; clear hx1'
        have hy' := Ds.ok.st _ _ _ hy hb_
        clear hy; have hy := hy'; clear hy'
        have hbW' := hbW.trans (hb_.mono (hAB ▸ hbW.size))
        clear hbW hb_; have hbW := hbW'; clear hbW'
        have hc := check_is hy (r := 0) (by rw [HYT.out]; exact T1.out)
        have HC := Lib.hid hc; clear hc
        have c_hA_0 : w14.cell? ⟨AB, 0, none⟩ = some (.slice pp pg.length cp) := hA.cell 0
        have c_hA_1 : w14.cell? ⟨AB, 1, none⟩ = some (.slice pu us.length cu) := hA.cell 1
        have c_hA_2 : w14.cell? ⟨AB, 2, none⟩ = some (.slice pr rs.length cr) := hA.cell 2
        have c_hB_0 : w14.cell? ⟨OB, 0, none⟩ = some (.slice yp yl.length yc) := hB.cell 0
        have c_hB_1 : w14.cell? ⟨OB, 1, none⟩ = some (.slice yq ym.length yd) := hB.cell 1
        have c_hB_2 : w14.cell? ⟨OB, 2, none⟩ = some (.slice yr yn.length ye) := hB.cell 2
        go_wp2_with fail
        refine HC.out.mono ?_
        rintro _ w15 ⟨rfl, hb_⟩
        clear HC
        clear c_hA_0 c_hA_1 c_hA_2 c_hB_0 c_hB_1 c_hB_2
        have hA' := hA.next hb_
        clear hA; have hA := hA'; clear hA'
        have hB' := hB.next hb_
        clear hB; have hB := hB'; clear hB'
        have hx1' := Ds.ok.st _ _ _ hx1 hb_
        clear hx1; have hx1 := hx1'; clear hx1'
        have hy' := Ds.ok.st _ _ _ hy hb_
        clear hy; have hy := hy'; clear hy'
        have hbW' := hbW.trans (hb_.mono (hAB ▸ hbW.size))
        clear hbW hb_; have hbW := hbW'; clear hbW'
        clear J1 J2
        have hc := drop_any hx1 root (r := k) (by rw [HS.out]; exact HKK.out)
        have HC := Lib.hid hc; clear hc
        have c_hA_0 : w15.cell? ⟨AB, 0, none⟩ = some (.slice pp pg.length cp) := hA.cell 0
        have c_hA_1 : w15.cell? ⟨AB, 1, none⟩ = some (.slice pu us.length cu) := hA.cell 1
        have c_hA_2 : w15.cell? ⟨AB, 2, none⟩ = some (.slice pr rs.length cr) := hA.cell 2
        go_wp2_with fail
        refine HC.out.mono ?_
        rintro _ w16 ⟨z, rfl, hz, hb_, d0, dne⟩
        clear HC
        clear c_hA_0 c_hA_1 c_hA_2
        have hA' := hA.next hb_
        clear hA; have hA := hA'; clear hA'
        have hx1' := Ds.ok.st _ _ _ hx1 hb_
        clear hx1; have hx1 := hx1'; clear hx1'
        have hbW' := hbW.trans (hb_.mono (hAB ▸ hbW.size))
        clear hbW hb_; have hbW := hbW'; clear hbW'
        rw [HS.out] at d0
        have D0 := Lib.hid d0; clear d0 dne
        obtain ⟨⟨zp, zc, zl⟩, ⟨zq, zd, zm⟩, ⟨zr, ze, zn⟩⟩ := z
        have hal := (Below.refl w16.heap.size w16).alloc (Nat.le_refl _) (.cells #[.slice zp zl.length zc, .slice zq zm.length zd, .slice zr zn.length ze] 26)
        have hD := Blk.mk2 w16 #[.slice zp zl.length zc, .slice zq zm.length zd, .slice zr zn.length ze] 26
        have hA' := hA.next hal
        clear hA; have hA := hA'; clear hA'
        have hx1' := Ds.ok.st _ _ _ hx1 hal
        clear hx1; have hx1 := hx1'; clear hx1'
        have hz' := Ds.ok.st _ _ _ hz hal
        clear hz; have hz := hz'; clear hz'
        have hbW' := hbW.trans (hal.mono (hAB ▸ hbW.size))
        clear hbW hal; have hbW := hbW'; clear hbW'
        by_cases hk0 : k = 0
        · subst hk0
          obtain ⟨d, hd1, hd2, hd3, hd4⟩ := stay_drop (other := other) (where_ := where_) HKK.out
          have hzd : Ds.c ⟨⟨zp, zc, zl⟩, ⟨zq, zd, zm⟩, ⟨zr, ze, zn⟩⟩ = d := (D0.out rfl).trans hd1
          have HZD := Lib.hid hzd; have HD2 := Lib.hid hd2; have HD3 := Lib.hid hd3; clear hzd hd1 hd2 hd3 D0
          by_cases hor : other = root
          · have k8 : (other != root) = false := by simp [hor]
            have HOR := Lib.hid hor; clear hor
            generalize hj1 : askedC d other where_ = jj at *
            generalize hj2 : getC d other where_ = nw at *
            have J1 := Lib.hid hj1; have J2 := Lib.hid hj2; clear hj1 hj2 hd4
            have hc := get_any hz other where_ (r := jj) (v := nw) (by rw [HZD.out]; exact J1.out) (by rw [HZD.out]; exact J2.out)
            have HC := Lib.hid hc; clear hc
            have c_hA_0 : (w16.alloc (.cells #[.slice zp zl.length zc, .slice zq zm.length zd, .slice zr zn.length ze] 26)).cell? ⟨AB, 0, none⟩ = some (.slice pp pg.length cp) := hA.cell 0
            have c_hA_1 : (w16.alloc (.cells #[.slice zp zl.length zc, .slice zq zm.length zd, .slice zr zn.length ze] 26)).cell? ⟨AB, 1, none⟩ = some (.slice pu us.length cu) := hA.cell 1
            have c_hA_2 : (w16.alloc (.cells #[.slice zp zl.length zc, .slice zq zm.length zd, .slice zr zn.length ze] 26)).cell? ⟨AB, 2, none⟩ = some (.slice pr rs.length cr) := hA.cell 2
            have c_hD_0 : (w16.alloc (.cells #[.slice zp zl.length zc, .slice zq zm.length zd, .slice zr zn.length ze] 26)).cell? ⟨w16.heap.size, 0, none⟩ = some (.slice zp zl.length zc) := hD.cell 0
            have c_hD_1 : (w16.alloc (.cells #[.slice zp zl.length zc, .slice zq zm.length zd, .slice zr zn.length ze] 26)).cell? ⟨w16.heap.size, 1, none⟩ = some (.slice zq zm.length zd) := hD.cell 1
            have c_hD_2 : (w16.alloc (.cells #[.slice zp zl.length zc, .slice zq zm.length zd, .slice zr zn.length ze] 26)).cell? ⟨w16.heap.size, 2, none⟩ = some (.slice zr zn.length ze) := hD.cell 2
            go_wp2_with fail
            refine HC.out.mono ?_
            rintro _ wb ⟨rfl, hb_⟩
            clear HC
            clear c_hA_0 c_hA_1 c_hA_2 c_hD_0 c_hD_1 c_hD_2
            have hA' := hA.next hb_
            clear hA; have hA := hA'; clear hA'
            have hD' := hD.next hb_
            clear hD; have hD := hD'; clear hD'
            have hx1' := Ds.ok.st _ _ _ hx1 hb_
            clear hx1; have hx1 := hx1'; clear hx1'
            have hz' := Ds.ok.st _ _ _ hz hb_
            clear hz; have hz := hz'; clear hz'
            have hbW' := hbW.trans (hb_.mono (hAB ▸ hbW.size))
            clear hbW hb_; have hbW := hbW'; clear hbW'
            generalize w16.heap.size = OD at *
            generalize hvg : getC d root 0 = vg at *
            have HVG := Lib.hid hvg; clear hvg
            have hc := get_any hz root 0 (r := 5) (v := vg) (by rw [HZD.out]; exact HD3.out) (by rw [HZD.out]; exact HVG.out)
            have HC := Lib.hid hc; clear hc
            have c_hA_0 : wb.cell? ⟨AB, 0, none⟩ = some (.slice pp pg.length cp) := hA.cell 0
            have c_hA_1 : wb.cell? ⟨AB, 1, none⟩ = some (.slice pu us.length cu) := hA.cell 1
            have c_hA_2 : wb.cell? ⟨AB, 2, none⟩ = some (.slice pr rs.length cr) := hA.cell 2
            have c_hD_0 : wb.cell? ⟨OD, 0, none⟩ = some (.slice zp zl.length zc) := hD.cell 0
            have c_hD_1 : wb.cell? ⟨OD, 1, none⟩ = some (.slice zq zm.length zd) := hD.cell 1
            have c_hD_2 : wb.cell? ⟨OD, 2, none⟩ = some (.slice zr zn.length ze) := hD.cell 2
            go_wp2_with fail
            refine HC.out.mono ?_
            rintro _ w31 ⟨rfl, hb_⟩
            clear HC
            clear c_hA_0 c_hA_1 c_hA_2 c_hD_0 c_hD_1 c_hD_2
            have hA' := hA.next hb_
            clear hA; have hA := hA'; clear hA'
            have hD' := hD.next hb_
            clear hD; have hD := hD'; clear hD'
            have hx1' := Ds.ok.st _ _ _ hx1 hb_
            clear hx1; have hx1 := hx1'; clear hx1'
            have hz' := Ds.ok.st _ _ _ hz hb_
            clear hz; have hz := hz'; clear hz'
            have hbW' := hbW.trans (hb_.mono (hAB ▸ hbW.size))
            clear hbW hb_; have hbW := hbW'; clear hbW'
            have hc := check_is hz (r := 0) (by rw [HZD.out]; exact HD2.out)
            have HC := Lib.hid hc; clear hc
            have c_hA_0 : w31.cell? ⟨AB, 0, none⟩ = some (.slice pp pg.length cp) := hA.cell 0
            have c_hA_1 : w31.cell? ⟨AB, 1, none⟩ = some (.slice pu us.length cu) := hA.cell 1
            have c_hA_2 : w31.cell? ⟨AB, 2, none⟩ = some (.slice pr rs.length cr) := hA.cell 2
            have c_hD_0 : w31.cell? ⟨OD, 0, none⟩ = some (.slice zp zl.length zc) := hD.cell 0
            have c_hD_1 : w31.cell? ⟨OD, 1, none⟩ = some (.slice zq zm.length zd) := hD.cell 1
            have c_hD_2 : w31.cell? ⟨OD, 2, none⟩ = some (.slice zr zn.length ze) := hD.cell 2
            go_wp2_with fail
            refine HC.out.mono ?_
            rintro _ w32 ⟨rfl, hb_⟩
            clear HC
            clear c_hA_0 c_hA_1 c_hA_2 c_hD_0 c_hD_1 c_hD_2
            have hA' := hA.next hb_
            clear hA; have hA := hA'; clear hA'
            have hD' := hD.next hb_
            clear hD; have hD := hD'; clear hD'
            have hx1' := Ds.ok.st _ _ _ hx1 hb_
            clear hx1; have hx1 := hx1'; clear hx1'
            have hz' := Ds.ok.st _ _ _ hz hb_
            clear hz; have hz := hz'; clear hz'
            have hbW' := hbW.trans (hb_.mono (hAB ▸ hbW.size))
            clear hbW hb_; have hbW := hbW'; clear hbW'
            have hc := begun_any w32
            have HC := Lib.hid hc; clear hc
            have c_hA_0 : w32.cell? ⟨AB, 0, none⟩ = some (.slice pp pg.length cp) := hA.cell 0
            have c_hA_1 : w32.cell? ⟨AB, 1, none⟩ = some (.slice pu us.length cu) := hA.cell 1
            have c_hA_2 : w32.cell? ⟨AB, 2, none⟩ = some (.slice pr rs.length cr) := hA.cell 2
            have c_hD_0 : w32.cell? ⟨OD, 0, none⟩ = some (.slice zp zl.length zc) := hD.cell 0
            have c_hD_1 : w32.cell? ⟨OD, 1, none⟩ = some (.slice zq zm.length zd) := hD.cell 1
            have c_hD_2 : w32.cell? ⟨OD, 2, none⟩ = some (.slice zr zn.length ze) := hD.cell 2
            go_wp2_with fail
            refine HC.out.mono ?_
            rintro _ w33 ⟨rfl, hb_⟩
            clear HC
            clear c_hA_0 c_hA_1 c_hA_2 c_hD_0 c_hD_1 c_hD_2
            have hA' := hA.next hb_
            clear hA; have hA := hA'; clear hA'
            have hD' := hD.next hb_
            clear hD; have hD := hD'; clear hD'
            have hx1' := Ds.ok.st _ _ _ hx1 hb_
            clear hx1; have hx1 := hx1'; clear hx1'
            have hz' := Ds.ok.st _ _ _ hz hb_
            clear hz; have hz := hz'; clear hz'
            have hbW' := hbW.trans (hb_.mono (hAB ▸ hbW.size))
            clear hbW hb_; have hbW := hbW'; clear hbW'
            go_wp2_with fail
            go_ret
            exact ⟨rfl, hbW⟩
          · have k8 : (other != root) = true := by simpa using hor
            obtain ⟨hj1, hj2⟩ := hd4 HF.out hor
            rw [HWAS.out] at hj2
            have J1 := Lib.hid hj1; have J2 := Lib.hid hj2; clear hj1 hj2 hd4 hor
            have hc := get_any hz other where_ (r := 0) (v := was) (by rw [HZD.out]; exact J1.out) (by rw [HZD.out]; exact J2.out)
            have HC := Lib.hid hc; clear hc
            have c_hA_0 : (w16.alloc (.cells #[.slice zp zl.length zc, .slice zq zm.length zd, .slice zr zn.length ze] 26)).cell? ⟨AB, 0, none⟩ = some (.slice pp pg.length cp) := hA.cell 0
            have c_hA_1 : (w16.alloc (.cells #[.slice zp zl.length zc, .slice zq zm.length zd, .slice zr zn.length ze] 26)).cell? ⟨AB, 1, none⟩ = some (.slice pu us.length cu) := hA.cell 1
            have c_hA_2 : (w16.alloc (.cells #[.slice zp zl.length zc, .slice zq zm.length zd, .slice zr zn.length ze] 26)).cell? ⟨AB, 2, none⟩ = some (.slice pr rs.length cr) := hA.cell 2
            have c_hD_0 : (w16.alloc (.cells #[.slice zp zl.length zc, .slice zq zm.length zd, .slice zr zn.length ze] 26)).cell? ⟨w16.heap.size, 0, none⟩ = some (.slice zp zl.length zc) := hD.cell 0
            have c_hD_1 : (w16.alloc (.cells #[.slice zp zl.length zc, .slice zq zm.length zd, .slice zr zn.length ze] 26)).cell? ⟨w16.heap.size, 1, none⟩ = some (.slice zq zm.length zd) := hD.cell 1
            have c_hD_2 : (w16.alloc (.cells #[.slice zp zl.length zc, .slice zq zm.length zd, .slice zr zn.length ze] 26)).cell? ⟨w16.heap.size, 2, none⟩ = some (.slice zr zn.length ze) := hD.cell 2
            go_wp2_with fail
            refine HC.out.mono ?_
            rintro _ wb ⟨rfl, hb_⟩
            clear HC
            clear c_hA_0 c_hA_1 c_hA_2 c_hD_0 c_hD_1 c_hD_2
            have hA' := hA.next hb_
            clear hA; have hA := hA'; clear hA'
            have hD' := hD.next hb_
            clear hD; have hD := hD'; clear hD'
            have hx1' := Ds.ok.st _ _ _ hx1 hb_
            clear hx1; have hx1 := hx1'; clear hx1'
            have hz' := Ds.ok.st _ _ _ hz hb_
            clear hz; have hz := hz'; clear hz'
            have hbW' := hbW.trans (hb_.mono (hAB ▸ hbW.size))
            clear hbW hb_; have hbW := hbW'; clear hbW'
            generalize w16.heap.size = OD at *
            generalize hvg : getC d root 0 = vg at *
            have HVG := Lib.hid hvg; clear hvg
            have hc := get_any hz root 0 (r := 5) (v := vg) (by rw [HZD.out]; exact HD3.out) (by rw [HZD.out]; exact HVG.out)
            have HC := Lib.hid hc; clear hc
            have c_hA_0 : wb.cell? ⟨AB, 0, none⟩ = some (.slice pp pg.length cp) := hA.cell 0
            have c_hA_1 : wb.cell? ⟨AB, 1, none⟩ = some (.slice pu us.length cu) := hA.cell 1
            have c_hA_2 : wb.cell? ⟨AB, 2, none⟩ = some (.slice pr rs.length cr) := hA.cell 2
            have c_hD_0 : wb.cell? ⟨OD, 0, none⟩ = some (.slice zp zl.length zc) := hD.cell 0
            have c_hD_1 : wb.cell? ⟨OD, 1, none⟩ = some (.slice zq zm.length zd) := hD.cell 1
            have c_hD_2 : wb.cell? ⟨OD, 2, none⟩ = some (.slice zr zn.length ze) := hD.cell 2
            go_wp2_with fail
            refine HC.out.mono ?_
            rintro _ w31 ⟨rfl, hb_⟩
            clear HC
            clear c_hA_0 c_hA_1 c_hA_2 c_hD_0 c_hD_1 c_hD_2
            have hA' := hA.next hb_
            clear hA; have hA := hA'; clear hA'
            have hD' := hD.next hb_
            clear hD; have hD := hD'; clear hD'
            have hx1' := Ds.ok.st _ _ _ hx1 hb_
            clear hx1; have hx1 := hx1'; clear hx1'
            have hz' := Ds.ok.st _ _ _ hz hb_
            clear hz; have hz := hz'; clear hz'
            have hbW' := hbW.trans (hb_.mono (hAB ▸ hbW.size))
            clear hbW hb_; have hbW := hbW'; clear hbW'
            have hc := check_is hz (r := 0) (by rw [HZD.out]; exact HD2.out)
            have HC := Lib.hid hc; clear hc
            have c_hA_0 : w31.cell? ⟨AB, 0, none⟩ = some (.slice pp pg.length cp) := hA.cell 0
            have c_hA_1 : w31.cell? ⟨AB, 1, none⟩ = some (.slice pu us.length cu) := hA.cell 1
            have c_hA_2 : w31.cell? ⟨AB, 2, none⟩ = some (.slice pr rs.length cr) := hA.cell 2
            have c_hD_0 : w31.cell? ⟨OD, 0, none⟩ = some (.slice zp zl.length zc) := hD.cell 0
            have c_hD_1 : w31.cell? ⟨OD, 1, none⟩ = some (.slice zq zm.length zd) := hD.cell 1
            have c_hD_2 : w31.cell? ⟨OD, 2, none⟩ = some (.slice zr zn.length ze) := hD.cell 2
            go_wp2_with fail
            refine HC.out.mono ?_
            rintro _ w32 ⟨rfl, hb_⟩
            clear HC
            clear c_hA_0 c_hA_1 c_hA_2 c_hD_0 c_hD_1 c_hD_2
            have hA' := hA.next hb_
            clear hA; have hA := hA'; clear hA'
            have hD' := hD.next hb_
            clear hD; have hD := hD'; clear hD'
            have hx1' := Ds.ok.st _ _ _ hx1 hb_
            clear hx1; have hx1 := hx1'; clear hx1'
            have hz' := Ds.ok.st _ _ _ hz hb_
            clear hz; have hz := hz'; clear hz'
            have hbW' := hbW.trans (hb_.mono (hAB ▸ hbW.size))
            clear hbW hb_; have hbW := hbW'; clear hbW'
            have hc := begun_any w32
            have HC := Lib.hid hc; clear hc
            have c_hA_0 : w32.cell? ⟨AB, 0, none⟩ = some (.slice pp pg.length cp) := hA.cell 0
            have c_hA_1 : w32.cell? ⟨AB, 1, none⟩ = some (.slice pu us.length cu) := hA.cell 1
            have c_hA_2 : w32.cell? ⟨AB, 2, none⟩ = some (.slice pr rs.length cr) := hA.cell 2
            have c_hD_0 : w32.cell? ⟨OD, 0, none⟩ = some (.slice zp zl.length zc) := hD.cell 0
            have c_hD_1 : w32.cell? ⟨OD, 1, none⟩ = some (.slice zq zm.length zd) := hD.cell 1
            have c_hD_2 : w32.cell? ⟨OD, 2, none⟩ = some (.slice zr zn.length ze) := hD.cell 2
            go_wp2_with fail
            refine HC.out.mono ?_
            rintro _ w33 ⟨rfl, hb_⟩
            clear HC
            clear c_hA_0 c_hA_1 c_hA_2 c_hD_0 c_hD_1 c_hD_2
            have hA' := hA.next hb_
            clear hA; have hA := hA'; clear hA'
            have hD' := hD.next hb_
            clear hD; have hD := hD'; clear hD'
            have hx1' := Ds.ok.st _ _ _ hx1 hb_
            clear hx1; have hx1 := hx1'; clear hx1'
            have hz' := Ds.ok.st _ _ _ hz hb_
            clear hz; have hz := hz'; clear hz'
            have hbW' := hbW.trans (hb_.mono (hAB ▸ hbW.size))
            clear hbW hb_; have hbW := hbW'; clear hbW'
            go_wp2_with fail
            go_ret
            exact ⟨rfl, hbW⟩
        · have k7 : (k == 0) = false := by simpa using hk0
          have HK0 := Lib.hid hk0; clear hk0
          have hc := begun_any (w16.alloc (.cells #[.slice zp zl.length zc, .slice zq zm.length zd, .slice zr zn.length ze] 26))
          have HC := Lib.hid hc; clear hc
          go_wp2_with fail
          refine HC.out.mono ?_
          rintro _ wb ⟨rfl, hb_⟩
          clear HC
          have hbW' := hbW.trans (hb_.mono (hAB ▸ hbW.size))
          go_wp2_with fail
          go_ret
          exact ⟨rfl, hbW'⟩
    · have k6 : (r == 0) = false := by simpa using hr0
      have HR0 := Lib.hid hr0; clear hr0 H0 HNE
      have hc := drop_any hx1 root (r := k) (by rw [HS.out]; exact HKK.out)
      have HC := Lib.hid hc; clear hc
      have c_hA_0 : wa.cell? ⟨AB, 0, none⟩ = some (.slice pp pg.length cp) := hA.cell 0
      have c_hA_1 : wa.cell? ⟨AB, 1, none⟩ = some (.slice pu us.length cu) := hA.cell 1
      have c_hA_2 : wa.cell? ⟨AB, 2, none⟩ = some (.slice pr rs.length cr) := hA.cell 2
      go_wp2_with fail
      refine HC.out.mono ?_
      rintro _ w11 ⟨z, rfl, hz, hb_, d0, dne⟩
      clear HC
      clear c_hA_0 c_hA_1 c_hA_2
      have hA' := hA.next hb_
      clear hA; have hA := hA'; clear hA'
      have hx1' := Ds.ok.st _ _ _ hx1 hb_
      clear hx1; have hx1 := hx1'; clear hx1'
      have hbW' := hbW.trans (hb_.mono (hAB ▸ hbW.size))
      clear hbW hb_; have hbW := hbW'; clear hbW'
      rw [HS.out] at d0
      have D0 := Lib.hid d0; clear d0 dne
      obtain ⟨⟨zp, zc, zl⟩, ⟨zq, zd, zm⟩, ⟨zr, ze, zn⟩⟩ := z
      have hal := (Below.refl w11.heap.size w11).alloc (Nat.le_refl _) (.cells #[.slice zp zl.length zc, .slice zq zm.length zd, .slice zr zn.length ze] 26)
      have hD := Blk.mk2 w11 #[.slice zp zl.length zc, .slice zq zm.length zd, .slice zr zn.length ze] 26
      have hA' := hA.next hal
      clear hA; have hA := hA'; clear hA'
      have hx1' := Ds.ok.st _ _ _ hx1 hal
      clear hx1; have hx1 := hx1'; clear hx1'
      have hz' := Ds.ok.st _ _ _ hz hal
      clear hz; have hz := hz'; clear hz'
      have hbW' := hbW.trans (hal.mono (hAB ▸ hbW.size))
      clear hbW hal; have hbW := hbW'; clear hbW'
      by_cases hk0 : k = 0
      · subst hk0
        obtain ⟨d, hd1, hd2, hd3, hd4⟩ := stay_drop (other := other) (where_ := where_) HKK.out
        have hzd : Ds.c ⟨⟨zp, zc, zl⟩, ⟨zq, zd, zm⟩, ⟨zr, ze, zn⟩⟩ = d := (D0.out rfl).trans hd1
        have HZD := Lib.hid hzd; have HD2 := Lib.hid hd2; have HD3 := Lib.hid hd3; clear hzd hd1 hd2 hd3 D0
        by_cases hor : other = root
        · have k8 : (other != root) = false := by simp [hor]
          have HOR := Lib.hid hor; clear hor
          generalize hj1 : askedC d other where_ = jj at *
          generalize hj2 : getC d other where_ = nw at *
          have J1 := Lib.hid hj1; have J2 := Lib.hid hj2; clear hj1 hj2 hd4
          have hc := get_any hz other where_ (r := jj) (v := nw) (by rw [HZD.out]; exact J1.out) (by rw [HZD.out]; exact J2.out)
          have HC := Lib.hid hc; clear hc
          have c_hA_0 : (w11.alloc (.cells #[.slice zp zl.length zc, .slice zq zm.length zd, .slice zr zn.length ze] 26)).cell? ⟨AB, 0, none⟩ = some (.slice pp pg.length cp) := hA.cell 0
          have c_hA_1 : (w11.alloc (.cells #[.slice zp zl.length zc, .slice zq zm.length zd, .slice zr zn.length ze] 26)).cell? ⟨AB, 1, none⟩ = some (.slice pu us.length cu) := hA.cell 1
          have c_hA_2 : (w11.alloc (.cells #[.slice zp zl.length zc, .slice zq zm.length zd, .slice zr zn.length ze] 26)).cell? ⟨AB, 2, none⟩ = some (.slice pr rs.length cr) := hA.cell 2
          have c_hD_0 : (w11.alloc (.cells #[.slice zp zl.length zc, .slice zq zm.length zd, .slice zr zn.length ze] 26)).cell? ⟨w11.heap.size, 0, none⟩ = some (.slice zp zl.length zc) := hD.cell 0
          have c_hD_1 : (w11.alloc (.cells #[.slice zp zl.length zc, .slice zq zm.length zd, .slice zr zn.length ze] 26)).cell? ⟨w11.heap.size, 1, none⟩ = some (.slice zq zm.length zd) := hD.cell 1
          have c_hD_2 : (w11.alloc (.cells #[.slice zp zl.length zc, .slice zq zm.length zd, .slice zr zn.length ze] 26)).cell? ⟨w11.heap.size, 2, none⟩ = some (.slice zr zn.length ze) := hD.cell 2
          go_wp2_with fail
          refine HC.out.mono ?_
          rintro _ wb ⟨rfl, hb_⟩
          clear HC
          clear c_hA_0 c_hA_1 c_hA_2 c_hD_0 c_hD_1 c_hD_2
          have hA' := hA.next hb_
          clear hA; have hA := hA'; clear hA'
          have hD' := hD.next hb_
          clear hD; have hD := hD'; clear hD'
          have hx1' := Ds.ok.st _ _ _ hx1 hb_
          clear hx1; have hx1 := hx1'; clear hx1'
          have hz' := Ds.ok.st _ _ _ hz hb_
          clear hz; have hz := hz'; clear hz'
          have hbW' := hbW.trans (hb_.mono (hAB ▸ hbW.size))
          clear hbW hb_; have hbW := hbW'; clear hbW'
          generalize w11.heap.size = OD at *
          generalize hvg : getC d root 0 = vg at *
          have HVG := Lib.hid hvg; clear hvg
          have hc := get_any hz root 0 (r := 5) (v := vg) (by rw [HZD.out]; exact HD3.out) (by rw [HZD.out]; exact HVG.out)
          have HC := Lib.hid hc; clear hc
          have c_hA_0 : wb.cell? ⟨AB, 0, none⟩ = some (.slice pp pg.length cp) := hA.cell 0
          have c_hA_1 : wb.cell? ⟨AB, 1, none⟩ = some (.slice pu us.length cu) := hA.cell 1
          have c_hA_2 : wb.cell? ⟨AB, 2, none⟩ = some (.slice pr rs.length cr) := hA.cell 2
          have c_hD_0 : wb.cell? ⟨OD, 0, none⟩ = some (.slice zp zl.length zc) := hD.cell 0
          have c_hD_1 : wb.cell? ⟨OD, 1, none⟩ = some (.slice zq zm.length zd) := hD.cell 1
          have c_hD_2 : wb.cell? ⟨OD, 2, none⟩ = some (.slice zr zn.length ze) := hD.cell 2
          go_wp2_with fail
          refine HC.out.mono ?_
          rintro _ w31 ⟨rfl, hb_⟩
          clear HC
          clear c_hA_0 c_hA_1 c_hA_2 c_hD_0 c_hD_1 c_hD_2
          have hA' := hA.next hb_
          clear hA; have hA := hA'; clear hA'
          have hD' := hD.next hb_
          clear hD; have hD := hD'; clear hD'
          have hx1' := Ds.ok.st _ _ _ hx1 hb_
          clear hx1; have hx1 := hx1'; clear hx1'
          have hz' := Ds.ok.st _ _ _ hz hb_
          clear hz; have hz := hz'; clear hz'
          have hbW' := hbW.trans (hb_.mono (hAB ▸ hbW.size))
          clear hbW hb_; have hbW := hbW'; clear hbW'
          have hc := check_is hz (r := 0) (by rw [HZD.out]; exact HD2.out)
          have HC := Lib.hid hc; clear hc
          have c_hA_0 : w31.cell? ⟨AB, 0, none⟩ = some (.slice pp pg.length cp) := hA.cell 0
          have c_hA_1 : w31.cell? ⟨AB, 1, none⟩ = some (.slice pu us.length cu) := hA.cell 1
          have c_hA_2 : w31.cell? ⟨AB, 2, none⟩ = some (.slice pr rs.length cr) := hA.cell 2
          have c_hD_0 : w31.cell? ⟨OD, 0, none⟩ = some (.slice zp zl.length zc) := hD.cell 0
          have c_hD_1 : w31.cell? ⟨OD, 1, none⟩ = some (.slice zq zm.length zd) := hD.cell 1
          have c_hD_2 : w31.cell? ⟨OD, 2, none⟩ = some (.slice zr zn.length ze) := hD.cell 2
          go_wp2_with fail
          refine HC.out.mono ?_
          rintro _ w32 ⟨rfl, hb_⟩
          clear HC
          clear c_hA_0 c_hA_1 c_hA_2 c_hD_0 c_hD_1 c_hD_2
          have hA' := hA.next hb_
          clear hA; have hA := hA'; clear hA'
          have hD' := hD.next hb_
          clear hD; have hD := hD'; clear hD'
          have hx1' := Ds.ok.st _ _ _ hx1 hb_
          clear hx1; have hx1 := hx1'; clear hx1'
          have hz' := Ds.ok.st _ _ _ hz hb_
          clear hz; have hz := hz'; clear hz'
          have hbW' := hbW.trans (hb_.mono (hAB ▸ hbW.size))
          clear hbW hb_; have hbW := hbW'; clear hbW'
          have hc := begun_any w32
          have HC := Lib.hid hc; clear hc
          have c_hA_0 : w32.cell? ⟨AB, 0, none⟩ = some (.slice pp pg.length cp) := hA.cell 0
          have c_hA_1 : w32.cell? ⟨AB, 1, none⟩ = some (.slice pu us.length cu) := hA.cell 1
          have c_hA_2 : w32.cell? ⟨AB, 2, none⟩ = some (.slice pr rs.length cr) := hA.cell 2
          have c_hD_0 : w32.cell? ⟨OD, 0, none⟩ = some (.slice zp zl.length zc) := hD.cell 0
          have c_hD_1 : w32.cell? ⟨OD, 1, none⟩ = some (.slice zq zm.length zd) := hD.cell 1
          have c_hD_2 : w32.cell? ⟨OD, 2, none⟩ = some (.slice zr zn.length ze) := hD.cell 2
          go_wp2_with fail
          refine HC.out.mono ?_
          rintro _ w33 ⟨rfl, hb_⟩
          clear HC
          clear c_hA_0 c_hA_1 c_hA_2 c_hD_0 c_hD_1 c_hD_2
          have hA' := hA.next hb_
          clear hA; have hA := hA'; clear hA'
          have hD' := hD.next hb_
          clear hD; have hD := hD'; clear hD'
          have hx1' := Ds.ok.st _ _ _ hx1 hb_
          clear hx1; have hx1 := hx1'; clear hx1'
          have hz' := Ds.ok.st _ _ _ hz hb_
          clear hz; have hz := hz'; clear hz'
          have hbW' := hbW.trans (hb_.mono (hAB ▸ hbW.size))
          clear hbW hb_; have hbW := hbW'; clear hbW'
          go_wp2_with fail
          go_ret
          exact ⟨rfl, hbW⟩
        · have k8 : (other != root) = true := by simpa using hor
          obtain ⟨hj1, hj2⟩ := hd4 HF.out hor
          rw [HWAS.out] at hj2
          have J1 := Lib.hid hj1; have J2 := Lib.hid hj2; clear hj1 hj2 hd4 hor
          have hc := get_any hz other where_ (r := 0) (v := was) (by rw [HZD.out]; exact J1.out) (by rw [HZD.out]; exact J2.out)
          have HC := Lib.hid hc; clear hc
          have c_hA_0 : (w11.alloc (.cells #[.slice zp zl.length zc, .slice zq zm.length zd, .slice zr zn.length ze] 26)).cell? ⟨AB, 0, none⟩ = some (.slice pp pg.length cp) := hA.cell 0
          have c_hA_1 : (w11.alloc (.cells #[.slice zp zl.length zc, .slice zq zm.length zd, .slice zr zn.length ze] 26)).cell? ⟨AB, 1, none⟩ = some (.slice pu us.length cu) := hA.cell 1
          have c_hA_2 : (w11.alloc (.cells #[.slice zp zl.length zc, .slice zq zm.length zd, .slice zr zn.length ze] 26)).cell? ⟨AB, 2, none⟩ = some (.slice pr rs.length cr) := hA.cell 2
          have c_hD_0 : (w11.alloc (.cells #[.slice zp zl.length zc, .slice zq zm.length zd, .slice zr zn.length ze] 26)).cell? ⟨w11.heap.size, 0, none⟩ = some (.slice zp zl.length zc) := hD.cell 0
          have c_hD_1 : (w11.alloc (.cells #[.slice zp zl.length zc, .slice zq zm.length zd, .slice zr zn.length ze] 26)).cell? ⟨w11.heap.size, 1, none⟩ = some (.slice zq zm.length zd) := hD.cell 1
          have c_hD_2 : (w11.alloc (.cells #[.slice zp zl.length zc, .slice zq zm.length zd, .slice zr zn.length ze] 26)).cell? ⟨w11.heap.size, 2, none⟩ = some (.slice zr zn.length ze) := hD.cell 2
          go_wp2_with fail
          refine HC.out.mono ?_
          rintro _ wb ⟨rfl, hb_⟩
          clear HC
          clear c_hA_0 c_hA_1 c_hA_2 c_hD_0 c_hD_1 c_hD_2
          have hA' := hA.next hb_
          clear hA; have hA := hA'; clear hA'
          have hD' := hD.next hb_
          clear hD; have hD := hD'; clear hD'
          have hx1' := Ds.ok.st _ _ _ hx1 hb_
          clear hx1; have hx1 := hx1'; clear hx1'
          have hz' := Ds.ok.st _ _ _ hz hb_
          clear hz; have hz := hz'; clear hz'
          have hbW' := hbW.trans (hb_.mono (hAB ▸ hbW.size))
          clear hbW hb_; have hbW := hbW'; clear hbW'
          generalize w11.heap.size = OD at *
          generalize hvg : getC d root 0 = vg at *
          have HVG := Lib.hid hvg; clear hvg
          have hc := get_any hz root 0 (r := 5) (v := vg) (by rw [HZD.out]; exact HD3.out) (by rw [HZD.out]; exact HVG.out)
          have HC := Lib.hid hc; clear hc
          have c_hA_0 : wb.cell? ⟨AB, 0, none⟩ = some (.slice pp pg.length cp) := hA.cell 0
          have c_hA_1 : wb.cell? ⟨AB, 1, none⟩ = some (.slice pu us.length cu) := hA.cell 1
          have c_hA_2 : wb.cell? ⟨AB, 2, none⟩ = some (.slice pr rs.length cr) := hA.cell 2
          have c_hD_0 : wb.cell? ⟨OD, 0, none⟩ = some (.slice zp zl.length zc) := hD.cell 0
          have c_hD_1 : wb.cell? ⟨OD, 1, none⟩ = some (.slice zq zm.length zd) := hD.cell 1
          have c_hD_2 : wb.cell? ⟨OD, 2, none⟩ = some (.slice zr zn.length ze) := hD.cell 2
          go_wp2_with fail
          refine HC.out.mono ?_
          rintro _ w31 ⟨rfl, hb_⟩
          clear HC
          clear c_hA_0 c_hA_1 c_hA_2 c_hD_0 c_hD_1 c_hD_2
          have hA' := hA.next hb_
          clear hA; have hA := hA'; clear hA'
          have hD' := hD.next hb_
          clear hD; have hD := hD'; clear hD'
          have hx1' := Ds.ok.st _ _ _ hx1 hb_
          clear hx1; have hx1 := hx1'; clear hx1'
          have hz' := Ds.ok.st _ _ _ hz hb_
          clear hz; have hz := hz'; clear hz'
          have hbW' := hbW.trans (hb_.mono (hAB ▸ hbW.size))
          clear hbW hb_; have hbW := hbW'; clear hbW'
          have hc := check_is hz (r := 0) (by rw [HZD.out]; exact HD2.out)
          have HC := Lib.hid hc; clear hc
          have c_hA_0 : w31.cell? ⟨AB, 0, none⟩ = some (.slice pp pg.length cp) := hA.cell 0
          have c_hA_1 : w31.cell? ⟨AB, 1, none⟩ = some (.slice pu us.length cu) := hA.cell 1
          have c_hA_2 : w31.cell? ⟨AB, 2, none⟩ = some (.slice pr rs.length cr) := hA.cell 2
          have c_hD_0 : w31.cell? ⟨OD, 0, none⟩ = some (.slice zp zl.length zc) := hD.cell 0
          have c_hD_1 : w31.cell? ⟨OD, 1, none⟩ = some (.slice zq zm.length zd) := hD.cell 1
          have c_hD_2 : w31.cell? ⟨OD, 2, none⟩ = some (.slice zr zn.length ze) := hD.cell 2
          go_wp2_with fail
          refine HC.out.mono ?_
          rintro _ w32 ⟨rfl, hb_⟩
          clear HC
          clear c_hA_0 c_hA_1 c_hA_2 c_hD_0 c_hD_1 c_hD_2
          have hA' := hA.next hb_
          clear hA; have hA := hA'; clear hA'
          have hD' := hD.next hb_
          clear hD; have hD := hD'; clear hD'
          have hx1' := Ds.ok.st _ _ _ hx1 hb_
          clear hx1; have hx1 := hx1'; clear hx1'
          have hz' := Ds.ok.st _ _ _ hz hb_
          clear hz; have hz := hz'; clear hz'
          have hbW' := hbW.trans (hb_.mono (hAB ▸ hbW.size))
          clear hbW hb_; have hbW := hbW'; clear hbW'
          have hc := begun_any w32
          have HC := Lib.hid hc; clear hc
          have c_hA_0 : w32.cell? ⟨AB, 0, none⟩ = some (.slice pp pg.length cp) := hA.cell 0
          have c_hA_1 : w32.cell? ⟨AB, 1, none⟩ = some (.slice pu us.length cu) := hA.cell 1
          have c_hA_2 : w32.cell? ⟨AB, 2, none⟩ = some (.slice pr rs.length cr) := hA.cell 2
          have c_hD_0 : w32.cell? ⟨OD, 0, none⟩ = some (.slice zp zl.length zc) := hD.cell 0
          have c_hD_1 : w32.cell? ⟨OD, 1, none⟩ = some (.slice zq zm.length zd) := hD.cell 1
          have c_hD_2 : w32.cell? ⟨OD, 2, none⟩ = some (.slice zr zn.length ze) := hD.cell 2
          go_wp2_with fail
          refine HC.out.mono ?_
          rintro _ w33 ⟨rfl, hb_⟩
          clear HC
          clear c_hA_0 c_hA_1 c_hA_2 c_hD_0 c_hD_1 c_hD_2
          have hA' := hA.next hb_
          clear hA; have hA := hA'; clear hA'
          have hD' := hD.next hb_
          clear hD; have hD := hD'; clear hD'
          have hx1' := Ds.ok.st _ _ _ hx1 hb_
          clear hx1; have hx1 := hx1'; clear hx1'
          have hz' := Ds.ok.st _ _ _ hz hb_
          clear hz; have hz := hz'; clear hz'
          have hbW' := hbW.trans (hb_.mono (hAB ▸ hbW.size))
          clear hbW hb_; have hbW := hbW'; clear hbW'
          go_wp2_with fail
          go_ret
          exact ⟨rfl, hbW⟩
      · have k7 : (k == 0) = false := by simpa using hk0
        have HK0 := Lib.hid hk0; clear hk0
        have hc := begun_any (w11.alloc (.cells #[.slice zp zl.length zc, .slice zq zm.length zd, .slice zr zn.length ze] 26))
        have HC := Lib.hid hc; clear hc
        go_wp2_with fail
        refine HC.out.mono ?_
        rintro _ wb ⟨rfl, hb_⟩
        clear HC
        have hbW' := hbW.trans (hb_.mono (hAB ▸ hbW.size))
        go_wp2_with fail
        go_ret
        exact ⟨rfl, hbW'⟩
  · have k9 : (f == 0) = false := by simpa using hf0
    have HF0 := Lib.hid hf0; clear hf0
    by_cases hr0 : r = 0
    · subst hr0
      obtain ⟨hyc, hn⟩ := H0.out rfl
      obtain ⟨t, ht, n', hn', t1, t2, t3, t4, t5, t6⟩ := stay_set (other := other) (where_ := where_) HSR.out
      have hnn : n = n' := hn.trans hn'
      have hyt : Ds.c ⟨⟨yp, yc, yl⟩, ⟨yq, yd, ym⟩, ⟨yr, ye, yn⟩⟩ = t := hyc.trans ht
      clear hn hn' hyc ht H0 HNE
      subst hnn
      have HYT := Lib.hid hyt; have T1 := Lib.hid t1; have T2 := Lib.hid t2; have T3 := Lib.hid t3; clear hyt t1 t2 t3
      generalize hh : askedC s root where_ = h at *
      generalize hav : getC s root where_ = av at *
      generalize hbv : getC t n where_ = bv at *
      have HH := Lib.hid hh; have HAV := Lib.hid hav; have HBV := Lib.hid hbv; have T4 := Lib.hid t4; clear hh hav hbv t4
      generalize hj1 : askedC t other where_ = jt at *
      generalize hj2 : getC t other where_ = nt at *
      have J1 := Lib.hid hj1; have J2 := Lib.hid hj2; clear hj1 hj2 t6
      by_cases hwa : where_ = at_
      · have k5 : (where_ != at_) = false := by simp [hwa]
        have HWA := Lib.hid hwa; clear hwa t5
        have hc := get_any hy n at_ (r := 0) (v := v) (by rw [HYT.out]; exact T2.out) (by rw [HYT.out]; exact T3.out)
        have HC := Lib.hid hc; clear hc
        have c_hA_0 : wa.cell? ⟨AB, 0, none⟩ = some (.slice pp pg.length cp) := hA.cell 0
        have c_hA_1 : wa.cell? ⟨AB, 1, none⟩ = some (.slice pu us.length cu) := hA.cell 1
        have c_hA_2 : wa.cell? ⟨AB, 2, none⟩ = some (.slice pr rs.length cr) := hA.cell 2
        have c_hB_0 : wa.cell? ⟨OB, 0, none⟩ = some (.slice yp yl.length yc) := hB.cell 0
        have c_hB_1 : wa.cell? ⟨OB, 1, none⟩ = some (.slice yq ym.length yd) := hB.cell 1
        have c_hB_2 : wa.cell? ⟨OB, 2, none⟩ = some (.slice yr yn.length ye) := hB.cell 2
        go_wp2_with fail
        refine HC.out.mono ?_
        rintro _ w11 ⟨rfl, hb_⟩
        clear HC
        clear c_hA_0 c_hA_1 c_hA_2 c_hB_0 c_hB_1 c_hB_2
        have hA' := hA.next hb_
        clear hA; have hA := hA'; clear hA'
        have hB' := hB.next hb_
        clear hB; have hB := hB'; clear hB'
        have hx1' := Ds.ok.st _ _ _ hx1 hb_
        clear hx1; have hx1 := hx1'; clear hx1'
        have hy' := Ds.ok.st _ _ _ hy hb_
        clear hy; have hy := hy'; clear hy'
        have hbW' := hbW.trans (hb_.mono (hAB ▸ hbW.size))
        clear hbW hb_; have hbW := hbW'; clear hbW'
        have hc := get_any hx1 root where_ (r := h) (v := av) (by rw [HS.out]; exact HH.out) (by rw [HS.out]; exact HAV.out)
        have HC := Lib.hid hc; clear hc
        have c_hA_0 : w11.cell? ⟨AB, 0, none⟩ = some (.slice pp pg.length cp) := hA.cell 0
        have c_hA_1 : w11.cell? ⟨AB, 1, none⟩ = some (.slice pu us.length cu) := hA.cell 1
        have c_hA_2 : w11.cell? ⟨AB, 2, none⟩ = some (.slice pr rs.length cr) := hA.cell 2
        have c_hB_0 : w11.cell? ⟨OB, 0, none⟩ = some (.slice yp yl.length yc) := hB.cell 0
        have c_hB_1 : w11.cell? ⟨OB, 1, none⟩ = some (.slice yq ym.length yd) := hB.cell 1
        have c_hB_2 : w11.cell? ⟨OB, 2, none⟩ = some (.slice yr yn.length ye) := hB.cell 2
        go_wp2_with fail
        refine HC.out.mono ?_
        rintro _ w12 ⟨rfl, hb_⟩
        clear HC
        clear c_hA_0 c_hA_1 c_hA_2 c_hB_0 c_hB_1 c_hB_2
        have hA' := hA.next hb_
        clear hA; have hA := hA'; clear hA'
        have hB' := hB.next hb_
        clear hB; have hB := hB'; clear hB'
        have hx1' := Ds.ok.st _ _ _ hx1 hb_
        clear hx1; have hx1 := hx1'; clear hx1'
        have hy' := Ds.ok.st _ _ _ hy hb_
        clear hy; have hy := hy'; clear hy'
        have hbW' := hbW.trans (hb_.mono (hAB ▸ hbW.size))
        clear hbW hb_; have hbW := hbW'; clear hbW'
        have hc := get_any hy n where_ (r := h) (v := bv) (by rw [HYT.out]; exact T4.out) (by rw [HYT.out]; exact HBV.out)
        have HC := Lib.hid hc; clear hc
        have c_hA_0 : w12.cell? ⟨AB, 0, none⟩ = some (.slice pp pg.length cp) := hA.cell 0
        have c_hA_1 : w12.cell? ⟨AB, 1, none⟩ = some (.slice pu us.length cu) := hA.cell 1
        have c_hA_2 : w12.cell? ⟨AB, 2, none⟩ = some (.slice pr rs.length cr) := hA.cell 2
        have c_hB_0 : w12.cell? ⟨OB, 0, none⟩ = some (.slice yp yl.length yc) := hB.cell 0
        have c_hB_1 : w12.cell? ⟨OB, 1, none⟩ = some (.slice yq ym.length yd) := hB.cell 1
        have c_hB_2 : w12.cell? ⟨OB, 2, none⟩ = some (.slice yr yn.length ye) := hB.cell 2
        go_wp2_with fail
        refine HC.out.mono ?_
        rintro _ w13 ⟨rfl, hb_⟩
        clear HC
        clear c_hA_0 c_hA_1 c_hA_2 c_hB_0 c_hB_1 c_hB_2
        have hA' := hA.next hb_
        clear hA; have hA := hA'; clear hA'
        have hB' := hB.next hb_
        clear hB; have hB := hB'; clear hB'
        have hx1' := Ds.ok.st _ _ _ hx1 hb_
        clear hx1; have hx1 := hx1'; clear hx1'
        have hy' := Ds.ok.st _ _ _ hy hb_
        clear hy; have hy := hy'; clear hy'
        have hbW' := hbW.trans (hb_.mono (hAB ▸ hbW.size))
        clear hbW hb_; have hbW := hbW'; clear hbW'
        have hc := get_any hy other where_ (r := jt) (v := nt) (by rw [HYT.out]; exact J1.out) (by rw [HYT.out]; exact J2.out)
        have HC := Lib.hid hc; clear hc
        have c_hA_0 : w13.cell? ⟨AB, 0, none⟩ = some (.slice pp pg.length cp) := hA.cell 0
        have c_hA_1 : w13.cell? ⟨AB, 1, none⟩ = some (.slice pu us.length cu) := hA.cell 1
        have c_hA_2 : w13.cell? ⟨AB, 2, none⟩ = some (.slice pr rs.length cr) := hA.cell 2
        have c_hB_0 : w13.cell? ⟨OB, 0, none⟩ = some (.slice yp yl.length yc) := hB.cell 0
        have c_hB_1 : w13.cell? ⟨OB, 1, none⟩ = some (.slice yq ym.length yd) := hB.cell 1
        have c_hB_2 : w13.cell? ⟨OB, 2, none⟩ = some (.slice yr yn.length ye) := hB.cell 2
        go_wp2_with fail
        refine HC.out.mono ?_
        rintro _ w14 ⟨rfl, hb_⟩
        clear HC
        clear c_hA_0 c_hA_1 c_hA_2 c_hB_0 c_hB_1 c_hB_2
        have hA' := hA.next hb_
        clear hA; have hA := hA'; clear hA'
        have hB' := hB.next hb_
        clear hB; have hB := hB'; clear hB'
        have hx1' := Ds.ok.st _ _ _ hx1 hb_
        clear hx1; have hx1 := hx1'; clear hx1'
        have hy' := Ds.ok.st _ _ _ hy hb_
        clear hy; have hy := hy'; clear hy'
        have hbW' := hbW.trans (hb_.mono (hAB ▸ hbW.size))
        clear hbW hb_; have hbW := hbW'; clear hbW'
        have hc := check_is hy (r := 0) (by rw [HYT.out]; exact T1.out)
        have HC := Lib.hid hc; clear hc
        have c_hA_0 : w14.cell? ⟨AB, 0, none⟩ = some (.slice pp pg.length cp) := hA.cell 0
        have c_hA_1 : w14.cell? ⟨AB, 1, none⟩ = some (.slice pu us.length cu) := hA.cell 1
        have c_hA_2 : w14.cell? ⟨AB, 2, none⟩ = some (.slice pr rs.length cr) := hA.cell 2
        have c_hB_0 : w14.cell? ⟨OB, 0, none⟩ = some (.slice yp yl.length yc) := hB.cell 0
        have c_hB_1 : w14.cell? ⟨OB, 1, none⟩ = some (.slice yq ym.length yd) := hB.cell 1
        have c_hB_2 : w14.cell? ⟨OB, 2, none⟩ = some (.slice yr yn.length ye) := hB.cell 2
        go_wp2_with fail
        refine HC.out.mono ?_
        rintro _ w15 ⟨rfl, hb_⟩
        clear HC
        clear c_hA_0 c_hA_1 c_hA_2 c_hB_0 c_hB_1 c_hB_2
        have hA' := hA.next hb_
        clear hA; have hA := hA'; clear hA'
        have hB' := hB.next hb_
        clear hB; have hB := hB'; clear hB'
        have hx1' := Ds.ok.st _ _ _ hx1 hb_
        clear hx1; have hx1 := hx1'; clear hx1'
        have hy' := Ds.ok.st _ _ _ hy hb_
        clear hy; have hy := hy'; clear hy'
        have hbW' := hbW.trans (hb_.mono (hAB ▸ hbW.size))
        clear hbW hb_; have hbW := hbW'; clear hbW'
        clear J1 J2
        have hc := drop_any hx1 root (r := k) (by rw [HS.out]; exact HKK.out)
        have HC := Lib.hid hc; clear hc
        have c_hA_0 : w15.cell? ⟨AB, 0, none⟩ = some (.slice pp pg.length cp) := hA.cell 0
        have c_hA_1 : w15.cell? ⟨AB, 1, none⟩ = some (.slice pu us.length cu) := hA.cell 1
        have c_hA_2 : w15.cell? ⟨AB, 2, none⟩ = some (.slice pr rs.length cr) := hA.cell 2
        go_wp2_with fail
        refine HC.out.mono ?_
        rintro _ w16 ⟨z, rfl, hz, hb_, d0, dne⟩
        clear HC
        clear c_hA_0 c_hA_1 c_hA_2
        have hA' := hA.next hb_
        clear hA; have hA := hA'; clear hA'
        have hx1' := Ds.ok.st _ _ _ hx1 hb_
        clear hx1; have hx1 := hx1'; clear hx1'
        have hbW' := hbW.trans (hb_.mono (hAB ▸ hbW.size))
        clear hbW hb_; have hbW := hbW'; clear hbW'
        rw [HS.out] at d0
        have D0 := Lib.hid d0; clear d0 dne
        obtain ⟨⟨zp, zc, zl⟩, ⟨zq, zd, zm⟩, ⟨zr, ze, zn⟩⟩ := z
        have hal := (Below.refl w16.heap.size w16).alloc (Nat.le_refl _) (.cells #[.slice zp zl.length zc, .slice zq zm.length zd, .slice zr zn.length ze] 26)
        have hD := Blk.mk2 w16 #[.slice zp zl.length zc, .slice zq zm.length zd, .slice zr zn.length ze] 26
        have hA' := hA.next hal
        clear hA; have hA := hA'; clear hA'
        have hx1' := Ds.ok.st _ _ _ hx1 hal
        clear hx1; have hx1 := hx1'; clear hx1'
        have hz' := Ds.ok.st _ _ _ hz hal
        clear hz; have hz := hz'; clear hz'
        have hbW' := hbW.trans (hal.mono (hAB ▸ hbW.size))
        clear hbW hal; have hbW := hbW'; clear hbW'
        by_cases hk0 : k = 0
        · subst hk0
          obtain ⟨d, hd1, hd2, hd3, hd4⟩ := stay_drop (other := other) (where_ := where_) HKK.out
          have hzd : Ds.c ⟨⟨zp, zc, zl⟩, ⟨zq, zd, zm⟩, ⟨zr, ze, zn⟩⟩ = d := (D0.out rfl).trans hd1
          have HZD := Lib.hid hzd; have HD2 := Lib.hid hd2; have HD3 := Lib.hid hd3; clear hzd hd1 hd2 hd3 D0
          generalize hj1 : askedC d other where_ = jj at *
          generalize hj2 : getC d other where_ = nw at *
          have J1 := Lib.hid hj1; have J2 := Lib.hid hj2; clear hj1 hj2 hd4
          have hc := get_any hz other where_ (r := jj) (v := nw) (by rw [HZD.out]; exact J1.out) (by rw [HZD.out]; exact J2.out)
          have HC := Lib.hid hc; clear hc
          have c_hA_0 : (w16.alloc (.cells #[.slice zp zl.length zc, .slice zq zm.length zd, .slice zr zn.length ze] 26)).cell? ⟨AB, 0, none⟩ = some (.slice pp pg.length cp) := hA.cell 0
          have c_hA_1 : (w16.alloc (.cells #[.slice zp zl.length zc, .slice zq zm.length zd, .slice zr zn.length ze] 26)).cell? ⟨AB, 1, none⟩ = some (.slice pu us.length cu) := hA.cell 1
          have c_hA_2 : (w16.alloc (.cells #[.slice zp zl.length zc, .slice zq zm.length zd, .slice zr zn.length ze] 26)).cell? ⟨AB, 2, none⟩ = some (.slice pr rs.length cr) := hA.cell 2
          have c_hD_0 : (w16.alloc (.cells #[.slice zp zl.length zc, .slice zq zm.length zd, .slice zr zn.length ze] 26)).cell? ⟨w16.heap.size, 0, none⟩ = some (.slice zp zl.length zc) := hD.cell 0
          have c_hD_1 : (w16.alloc (.cells #[.slice zp zl.length zc, .slice zq zm.length zd, .slice zr zn.length ze] 26)).cell? ⟨w16.heap.size, 1, none⟩ = some (.slice zq zm.length zd) := hD.cell 1
          have c_hD_2 : (w16.alloc (.cells #[.slice zp zl.length zc, .slice zq zm.length zd, .slice zr zn.length ze] 26)).cell? ⟨w16.heap.size, 2, none⟩ = some (.slice zr zn.length ze) := hD.cell 2
          go_wp2_with fail
          refine HC.out.mono ?_
          rintro _ wb ⟨rfl, hb_⟩
          clear HC
          clear c_hA_0 c_hA_1 c_hA_2 c_hD_0 c_hD_1 c_hD_2
          have hA' := hA.next hb_
          clear hA; have hA := hA'; clear hA'
          have hD' := hD.next hb_
          clear hD; have hD := hD'; clear hD'
          have hx1' := Ds.ok.st _ _ _ hx1 hb_
          clear hx1; have hx1 := hx1'; clear hx1'
          have hz' := Ds.ok.st _ _ _ hz hb_
          clear hz; have hz := hz'; clear hz'
          have hbW' := hbW.trans (hb_.mono (hAB ▸ hbW.size))
          clear hbW hb_; have hbW := hbW'; clear hbW'
          generalize w16.heap.size = OD at *
          generalize hvg : getC d root 0 = vg at *
          have HVG := Lib.hid hvg; clear hvg
          have hc := get_any hz root 0 (r := 5) (v := vg) (by rw [HZD.out]; exact HD3.out) (by rw [HZD.out]; exact HVG.out)
          have HC := Lib.hid hc; clear hc
          have c_hA_0 : wb.cell? ⟨AB, 0, none⟩ = some (.slice pp pg.length cp) := hA.cell 0
          have c_hA_1 : wb.cell? ⟨AB, 1, none⟩ = some (.slice pu us.length cu) := hA.cell 1
          have c_hA_2 : wb.cell? ⟨AB, 2, none⟩ = some (.slice pr rs.length cr) := hA.cell 2
          have c_hD_0 : wb.cell? ⟨OD, 0, none⟩ = some (.slice zp zl.length zc) := hD.cell 0
          have c_hD_1 : wb.cell? ⟨OD, 1, none⟩ = some (.slice zq zm.length zd) := hD.cell 1
          have c_hD_2 : wb.cell? ⟨OD, 2, none⟩ = some (.slice zr zn.length ze) := hD.cell 2
          go_wp2_with fail
          refine HC.out.mono ?_
          rintro _ w31 ⟨rfl, hb_⟩
          clear HC
          clear c_hA_0 c_hA_1 c_hA_2 c_hD_0 c_hD_1 c_hD_2
          have hA' := hA.next hb_
          clear hA; have hA := hA'; clear hA'
          have hD' := hD.next hb_
          clear hD; have hD := hD'; clear hD'
          have hx1' := Ds.ok.st _ _ _ hx1 hb_
          clear hx1; have hx1 := hx1'; clear hx1'
          have hz' := Ds.ok.st _ _ _ hz hb_
          clear hz; have hz := hz'; clear hz'
          have hbW' := hbW.trans (hb_.mono (hAB ▸ hbW.size))
          clear hbW hb_; have hbW := hbW'; clear hbW'
          have hc := check_is hz (r := 0) (by rw [HZD.out]; exact HD2.out)
          have HC := Lib.hid hc; clear hc
          have c_hA_0 : w31.cell? ⟨AB, 0, none⟩ = some (.slice pp pg.length cp) := hA.cell 0
          have c_hA_1 : w31.cell? ⟨AB, 1, none⟩ = some (.slice pu us.length cu) := hA.cell 1
          have c_hA_2 : w31.cell? ⟨AB, 2, none⟩ = some (.slice pr rs.length cr) := hA.cell 2
          have c_hD_0 : w31.cell? ⟨OD, 0, none⟩ = some (.slice zp zl.length zc) := hD.cell 0
          have c_hD_1 : w31.cell? ⟨OD, 1, none⟩ = some (.slice zq zm.length zd) := hD.cell 1
          have c_hD_2 : w31.cell? ⟨OD, 2, none⟩ = some (.slice zr zn.length ze) := hD.cell 2
          go_wp2_with fail
          refine HC.out.mono ?_
          rintro _ w32 ⟨rfl, hb_⟩
          clear HC
          clear c_hA_0 c_hA_1 c_hA_2 c_hD_0 c_hD_1 c_hD_2
          have hA' := hA.next hb_
          clear hA; have hA := hA'; clear hA'
          have hD' := hD.next hb_
          clear hD; have hD := hD'; clear hD'
          have hx1' := Ds.ok.st _ _ _ hx1 hb_
          clear hx1; have hx1 := hx1'; clear hx1'
          have hz' := Ds.ok.st _ _ _ hz hb_
          clear hz; have hz := hz'; clear hz'
          have hbW' := hbW.trans (hb_.mono (hAB ▸ hbW.size))
          clear hbW hb_; have hbW := hbW'; clear hbW'
          have hc := begun_any w32
          have HC := Lib.hid hc; clear hc
          have c_hA_0 : w32.cell? ⟨AB, 0, none⟩ = some (.slice pp pg.length cp) := hA.cell 0
          have c_hA_1 : w32.cell? ⟨AB, 1, none⟩ = some (.slice pu us.length cu) := hA.cell 1
          have c_hA_2 : w32.cell? ⟨AB, 2, none⟩ = some (.slice pr rs.length cr) := hA.cell 2
          have c_hD_0 : w32.cell? ⟨OD, 0, none⟩ = some (.slice zp zl.length zc) := hD.cell 0
          have c_hD_1 : w32.cell? ⟨OD, 1, none⟩ = some (.slice zq zm.length zd) := hD.cell 1
          have c_hD_2 : w32.cell? ⟨OD, 2, none⟩ = some (.slice zr zn.length ze) := hD.cell 2
          go_wp2_with fail
          refine HC.out.mono ?_
          rintro _ w33 ⟨rfl, hb_⟩
          clear HC
          clear c_hA_0 c_hA_1 c_hA_2 c_hD_0 c_hD_1 c_hD_2
          have hA' := hA.next hb_
          clear hA; have hA := hA'; clear hA'
          have hD' := hD.next hb_
          clear hD; have hD := hD'; clear hD'
          have hx1' := Ds.ok.st _ _ _ hx1 hb_
          clear hx1; have hx1 := hx1'; clear hx1'
          have hz' := Ds.ok.st _ _ _ hz hb_
          clear hz; have hz := hz'; clear hz'
          have hbW' := hbW.trans (hb_.mono (hAB ▸ hbW.size))
          clear hbW hb_; have hbW := hbW'; clear hbW'
          go_wp2_with fail
          go_ret
          exact ⟨rfl, hbW⟩
        · have k7 : (k == 0) = false := by simpa using hk0
          have HK0 := Lib.hid hk0; clear hk0
          have hc := begun_any (w16.alloc (.cells #[.slice zp zl.length zc, .slice zq zm.length zd, .slice zr zn.length ze] 26))
          have HC := Lib.hid hc; clear hc
          go_wp2_with fail
          refine HC.out.mono ?_
          rintro _ wb ⟨rfl, hb_⟩
          clear HC
          have hbW' := hbW.trans (hb_.mono (hAB ▸ hbW.size))
          go_wp2_with fail
          go_ret
          exact ⟨rfl, hbW'⟩
      · have k5 : (where_ != at_) = true := by simpa using hwa
        have hbe := t5 hwa
        have HWA := Lib.hid hwa; clear hwa t5
        subst hbe
        have hc := get_any hy n at_ (r := 0) (v := v) (by rw [HYT.out]; exact T2.out) (by rw [HYT.out]; exact T3.out)
        have HC := Lib.hid hc; clear hc
        have c_hA_0 : wa.cell? ⟨AB, 0, none⟩ = some (.slice pp pg.length cp) := hA.cell 0
        have c_hA_1 : wa.cell? ⟨AB, 1, none⟩ = some (.slice pu us.length cu) := hA.cell 1
        have c_hA_2 : wa.cell? ⟨AB, 2, none⟩ = some (.slice pr rs.length cr) := hA.cell 2
        have c_hB_0 : wa.cell? ⟨OB, 0, none⟩ = some (.slice yp yl.length yc) := hB.cell 0
        have c_hB_1 : wa.cell? ⟨OB, 1, none⟩ = some (.slice yq ym.length yd) := hB.cell 1
        have c_hB_2 : wa.cell? ⟨OB, 2, none⟩ = some (.slice yr yn.length ye) := hB.cell 2
        go_wp2_with fail
        refine HC.out.mono ?_
        rintro _ w11 ⟨rfl, hb_⟩
        clear HC
        clear c_hA_0 c_hA_1 c_hA_2 c_hB_0 c_hB_1 c_hB_2
        have hA' := hA.next hb_
        clear hA; have hA := hA'; clear hA'
        have hB' := hB.next hb_
        clear hB; have hB := hB'; clear hB'
        have hx1' := Ds.ok.st _ _ _ hx1 hb_
        clear hx1; have hx1 := hx1'; clear hx1'
        have hy' := Ds.ok.st _ _ _ hy hb_
        clear hy; have hy := hy'; clear hy'
        have hbW' := hbW.trans (hb_.mono (hAB ▸ hbW.size))
        clear hbW hb_; have hbW := hbW'; clear hbW'
        have hc := get_any hx1 root where_ (r := h) (v := bv) (by rw [HS.out]; exact HH.out) (by rw [HS.out]; exact HAV.out)
        have HC := Lib.hid hc; clear hc
        have c_hA_0 : w11.cell? ⟨AB, 0, none⟩ = some (.slice pp pg.length cp) := hA.cell 0
        have c_hA_1 : w11.cell? ⟨AB, 1, none⟩ = some (.slice pu us.length cu) := hA.cell 1
        have c_hA_2 : w11.cell? ⟨AB, 2, none⟩ = some (.slice pr rs.length cr) := hA.cell 2
        have c_hB_0 : w11.cell? ⟨OB, 0, none⟩ = some (.slice yp yl.length yc) := hB.cell 0
        have c_hB_1 : w11.cell? ⟨OB, 1, none⟩ = some (.slice yq ym.length yd) := hB.cell 1
        have c_hB_2 : w11.cell? ⟨OB, 2, none⟩ = some (.slice yr yn.length ye) := hB.cell 2
        go_wp2_with fail
        refine HC.out.mono ?_
        rintro _ w12 ⟨rfl, hb_⟩
        clear HC
        clear c_hA_0 c_hA_1 c_hA_2 c_hB_0 c_hB_1 c_hB_2
        have hA' := hA.next hb_
        clear hA; have hA := hA'; clear hA'
        have hB' := hB.next hb_
        clear hB; have hB := hB'; clear hB'
        have hx1' := Ds.ok.st _ _ _ hx1 hb_
        clear hx1; have hx1 := hx1'; clear hx1'
        have hy' := Ds.ok.st _ _ _ hy hb_
        clear hy; have hy := hy'; clear hy'
        have hbW' := hbW.trans (hb_.mono (hAB ▸ hbW.size))
        clear hbW hb_; have hbW := hbW'; clear hbW'
        have hc := get_any hy n where_ (r := h) (v := bv) (by rw [HYT.out]; exact T4.out) (by rw [HYT.out]; exact HBV.out)
        have HC := Lib.hid hc; clear hc
        have c_hA_0 : w12.cell? ⟨AB, 0, none⟩ = some (.slice pp pg.length cp) := hA.cell 0
        have c_hA_1 : w12.cell? ⟨AB, 1, none⟩ = some (.slice pu us.length cu) := hA.cell 1
        have c_hA_2 : w12.cell? ⟨AB, 2, none⟩ = some (.slice pr rs.length cr) := hA.cell 2
        have c_hB_0 : w12.cell? ⟨OB, 0, none⟩ = some (.slice yp yl.length yc) := hB.cell 0
        have c_hB_1 : w12.cell? ⟨OB, 1, none⟩ = some (.slice yq ym.length yd) := hB.cell 1
        have c_hB_2 : w12.cell? ⟨OB, 2, none⟩ = some (.slice yr yn.length ye) := hB.cell 2
        go_wp2_with fail
        refine HC.out.mono ?_
        rintro _ w13 ⟨rfl, hb_⟩
        clear HC
        clear c_hA_0 c_hA_1 c_hA_2 c_hB_0 c_hB_1 c_hB_2
        have hA' := hA.next hb_
        clear hA; have hA := hA'; clear hA'
        have hB' := hB.next hb_
        clear hB; have hB := hB'; clear hB'
        have hx1' := Ds.ok.st _ _ _ hx1 hb_
        clear hx1; have hx1 := hx1'; clear hx1'
        have hy' := Ds.ok.st _ _ _ hy hb_
        clear hy; have hy := hy'; clear hy'
        have hbW' := hbW.trans (hb_.mono (hAB ▸ hbW.size))
        clear hbW hb_; have hbW := hbW'; clear hbW'
        have hc := get_any hy other where_ (r := jt) (v := nt) (by rw [HYT.out]; exact J1.out) (by rw [HYT.out]; exact J2.out)
        have HC := Lib.hid hc; clear hc
        have c_hA_0 : w13.cell? ⟨AB, 0, none⟩ = some (.slice pp pg.length cp) := hA.cell 0
        have c_hA_1 : w13.cell? ⟨AB, 1, none⟩ = some (.slice pu us.length cu) := hA.cell 1
        have c_hA_2 : w13.cell? ⟨AB, 2, none⟩ = some (.slice pr rs.length cr) := hA.cell 2
        have c_hB_0 : w13.cell? ⟨OB, 0, none⟩ = some (.slice yp yl.length yc) := hB.cell 0
        have c_hB_1 : w13.cell? ⟨OB, 1, none⟩ = some (.slice yq ym.length yd) := hB.cell 1
        have c_hB_2 : w13.cell? ⟨OB, 2, none⟩ = some (.slice yr yn.length ye) := hB.cell 2
        go_wp2_with fail
        refine HC.out.mono ?_
        rintro _ w14 ⟨rfl, hb_⟩
        clear HC
        clear c_hA_0 c_hA_1 c_hA_2 c_hB_0 c_hB_1 c_hB_2
        have hA' := hA.next hb_
        clear hA; have hA := hA'; clear hA'
        have hB' := hB.next hb_
        clear hB; have hB := hB'; clear hB'
        have hx1' := Ds.ok.st _ _ _ hx1 hb_
        clear hx1; have hx1 := hx1'; clear hx1'
        have hy' := Ds.ok.st _ _ _ hy hb_
        clear hy; have hy := hy'; clear hy'
        have hbW' := hbW.trans (hb_.mono (hAB ▸ hbW.size))
        clear hbW hb_; have hbW := hbW'; clear hbW'
        have hc := check_is hy (r := 0) (by rw [HYT.out]; exact T1.out)
        have HC := Lib.hid hc; clear hc
        have c_hA_0 : w14.cell? ⟨AB, 0, none⟩ = some (.slice pp pg.length cp) := hA.cell 0
        have c_hA_1 : w14.cell? ⟨AB, 1, none⟩ = some (.slice pu us.length cu) := hA.cell 1
        have c_hA_2 : w14.cell? ⟨AB, 2, none⟩ = some (.slice pr rs.length cr) := hA.cell 2
        have c_hB_0 : w14.cell? ⟨OB, 0, none⟩ = some (.slice yp yl.length yc) := hB.cell 0
        have c_hB_1 : w14.cell? ⟨OB, 1, none⟩ = some (.slice yq ym.length yd) := hB.cell 1
        have c_hB_2 : w14.cell? ⟨OB, 2, none⟩ = some (.slice yr yn.length ye) := hB.cell 2
        go_wp2_with fail
        refine HC.out.mono ?_
        rintro _ w15 ⟨rfl, hb_⟩
        clear HC
        clear c_hA_0 c_hA_1 c_hA_2 c_hB_0 c_hB_1 c_hB_2
        have hA' := hA.next hb_
        clear hA; have hA := hA'; clear hA'
        have hB' := hB.next hb_
        clear hB; have hB := hB'; clear hB'
        have hx1' := Ds.ok.st _ _ _ hx1 hb_
        clear hx1; have hx1 := hx1'; clear hx1'
        have hy' := Ds.ok.st _ _ _ hy hb_
        clear hy; have hy := hy'; clear hy'
        have hbW' := hbW.trans (hb_.mono (hAB ▸ hbW.size))
        clear hbW hb_; have hbW := hbW'; clear hbW'
        clear J1 J2
        have hc := drop_any hx1 root (r := k) (by rw [HS.out]; exact HKK.out)
        have HC := Lib.hid hc; clear hc
        have c_hA_0 : w15.cell? ⟨AB, 0, none⟩ = some (.slice pp pg.length cp) := hA.cell 0
        have c_hA_1 : w15.cell? ⟨AB, 1, none⟩ = some (.slice pu us.length cu) := hA.cell 1
        have c_hA_2 : w15.cell? ⟨AB, 2, none⟩ = some (.slice pr rs.length cr) := hA.cell 2
        go_wp2_with fail
        refine HC.out.mono ?_
        rintro _ w16 ⟨z, rfl, hz, hb_, d0, dne⟩
        clear HC
        clear c_hA_0 c_hA_1 c_hA_2
        have hA' := hA.next hb_
        clear hA; have hA := hA'; clear hA'
        have hx1' := Ds.ok.st _ _ _ hx1 hb_
        clear hx1; have hx1 := hx1'; clear hx1'
        have hbW' := hbW.trans (hb_.mono (hAB ▸ hbW.size))
        clear hbW hb_; have hbW := hbW'; clear hbW'
        rw [HS.out] at d0
        have D0 := Lib.hid d0; clear d0 dne
        obtain ⟨⟨zp, zc, zl⟩, ⟨zq, zd, zm⟩, ⟨zr, ze, zn⟩⟩ := z
        have hal := (Below.refl w16.heap.size w16).alloc (Nat.le_refl _) (.cells #[.slice zp zl.length zc, .slice zq zm.length zd, .slice zr zn.length ze] 26)
        have hD := Blk.mk2 w16 #[.slice zp zl.length zc, .slice zq zm.length zd, .slice zr zn.length ze] 26
        have hA' := hA.next hal
        clear hA; have hA := hA'; clear hA'
        have hx1' := Ds.ok.st _ _ _ hx1 hal
        clear hx1; have hx1 := hx1'; clear hx1'
        have hz' := Ds.ok.st _ _ _ hz hal
        clear hz; have hz := hz'; clear hz'
        have hbW' := hbW.trans (hal.mono (hAB ▸ hbW.size))
        clear hbW hal; have hbW := hbW'; clear hbW'
        by_cases hk0 : k = 0
        · subst hk0
          obtain ⟨d, hd1, hd2, hd3, hd4⟩ := stay_drop (other := other) (where_ := where_) HKK.out
          have hzd : Ds.c ⟨⟨zp, zc, zl⟩, ⟨zq, zd, zm⟩, ⟨zr, ze, zn⟩⟩ = d := (D0.out rfl).trans hd1
          have HZD := Lib.hid hzd; have HD2 := Lib.hid hd2; have HD3 := Lib.hid hd3; clear hzd hd1 hd2 hd3 D0
          generalize hj1 : askedC d other where_ = jj at *
          generalize hj2 : getC d other where_ = nw at *
          have J1 := Lib.hid hj1; have J2 := Lib.hid hj2; clear hj1 hj2 hd4
          have hc := get_any hz other where_ (r := jj) (v := nw) (by rw [HZD.out]; exact J1.out) (by rw [HZD.out]; exact J2.out)
          have HC := Lib.hid hc; clear hc
          have c_hA_0 : (w16.alloc (.cells #[.slice zp zl.length zc, .slice zq zm.length zd, .slice zr zn.length ze] 26)).cell? ⟨AB, 0, none⟩ = some (.slice pp pg.length cp) := hA.cell 0
          have c_hA_1 : (w16.alloc (.cells #[.slice zp zl.length zc, .slice zq zm.length zd, .slice zr zn.length ze] 26)).cell? ⟨AB, 1, none⟩ = some (.slice pu us.length cu) := hA.cell 1
          have c_hA_2 : (w16.alloc (.cells #[.slice zp zl.length zc, .slice zq zm.length zd, .slice zr zn.length ze] 26)).cell? ⟨AB, 2, none⟩ = some (.slice pr rs.length cr) := hA.cell 2
          have c_hD_0 : (w16.alloc (.cells #[.slice zp zl.length zc, .slice zq zm.length zd, .slice zr zn.length ze] 26)).cell? ⟨w16.heap.size, 0, none⟩ = some (.slice zp zl.length zc) := hD.cell 0
          have c_hD_1 : (w16.alloc (.cells #[.slice zp zl.length zc, .slice zq zm.length zd, .slice zr zn.length ze] 26)).cell? ⟨w16.heap.size, 1, none⟩ = some (.slice zq zm.length zd) := hD.cell 1
          have c_hD_2 : (w16.alloc (.cells #[.slice zp zl.length zc, .slice zq zm.length zd, .slice zr zn.length ze] 26)).cell? ⟨w16.heap.size, 2, none⟩ = some (.slice zr zn.length ze) := hD.cell 2
          go_wp2_with fail
          refine HC.out.mono ?_
          rintro _ wb ⟨rfl, hb_⟩
          clear HC
          clear c_hA_0 c_hA_1 c_hA_2 c_hD_0 c_hD_1 c_hD_2
          have hA' := hA.next hb_
          clear hA; have hA := hA'; clear hA'
          have hD' := hD.next hb_
          clear hD; have hD := hD'; clear hD'
          have hx1' := Ds.ok.st _ _ _ hx1 hb_
          clear hx1; have hx1 := hx1'; clear hx1'
          have hz' := Ds.ok.st _ _ _ hz hb_
          clear hz; have hz := hz'; clear hz'
          have hbW' := hbW.trans (hb_.mono (hAB ▸ hbW.size))
          clear hbW hb_; have hbW := hbW'; clear hbW'
          generalize w16.heap.size = OD at *
          generalize hvg : getC d root 0 = vg at *
          have HVG := Lib.hid hvg; clear hvg
          have hc := get_any hz root 0 (r := 5) (v := vg) (by rw [HZD.out]; exact HD3.out) (by rw [HZD.out]; exact HVG.out)
          have HC := Lib.hid hc; clear hc
          have c_hA_0 : wb.cell? ⟨AB, 0, none⟩ = some (.slice pp pg.length cp) := hA.cell 0
          have c_hA_1 : wb.cell? ⟨AB, 1, none⟩ = some (.slice pu us.length cu) := hA.cell 1
          have c_hA_2 : wb.cell? ⟨AB, 2, none⟩ = some (.slice pr rs.length cr) := hA.cell 2
          have c_hD_0 : wb.cell? ⟨OD, 0, none⟩ = some (.slice zp zl.length zc) := hD.cell 0
          have c_hD_1 : wb.cell? ⟨OD, 1, none⟩ = some (.slice zq zm.length zd) := hD.cell 1
          have c_hD_2 : wb.cell? ⟨OD, 2, none⟩ = some (.slice zr zn.length ze) := hD.cell 2
          go_wp2_with fail
          refine HC.out.mono ?_
          rintro _ w31 ⟨rfl, hb_⟩
          clear HC
          clear c_hA_0 c_hA_1 c_hA_2 c_hD_0 c_hD_1 c_hD_2
          have hA' := hA.next hb_
          clear hA; have hA := hA'; clear hA'
          have hD' := hD.next hb_
          clear hD; have hD := hD'; clear hD'
          have hx1' := Ds.ok.st _ _ _ hx1 hb_
          clear hx1; have hx1 := hx1'; clear hx1'
          have hz' := Ds.ok.st _ _ _ hz hb_
          clear hz; have hz := hz'; clear hz'
          have hbW' := hbW.trans (hb_.mono (hAB ▸ hbW.size))
          clear hbW hb_; have hbW := hbW'; clear hbW'
          have hc := check_is hz (r := 0) (by rw [HZD.out]; exact HD2.out)
          have HC := Lib.hid hc; clear hc
          have c_hA_0 : w31.cell? ⟨AB, 0, none⟩ = some (.slice pp pg.length cp) := hA.cell 0
          have c_hA_1 : w31.cell? ⟨AB, 1, none⟩ = some (.slice pu us.length cu) := hA.cell 1
          have c_hA_2 : w31.cell? ⟨AB, 2, none⟩ = some (.slice pr rs.length cr) := hA.cell 2
          have c_hD_0 : w31.cell? ⟨OD, 0, none⟩ = some (.slice zp zl.length zc) := hD.cell 0
          have c_hD_1 : w31.cell? ⟨OD, 1, none⟩ = some (.slice zq zm.length zd) := hD.cell 1
          have c_hD_2 : w31.cell? ⟨OD, 2, none⟩ = some (.slice zr zn.length ze) := hD.cell 2
          go_wp2_with fail
          refine HC.out.mono ?_
          rintro _ w32 ⟨rfl, hb_⟩
          clear HC
          clear c_hA_0 c_hA_1 c_hA_2 c_hD_0 c_hD_1 c_hD_2
          have hA' := hA.next hb_
          clear hA; have hA := hA'; clear hA'
          have hD' := hD.next hb_
          clear hD; have hD := hD'; clear hD'
          have hx1' := Ds.ok.st _ _ _ hx1 hb_
          clear hx1; have hx1 := hx1'; clear hx1'
          have hz' := Ds.ok.st _ _ _ hz hb_
          clear hz; have hz := hz'; clear hz'
          have hbW' := hbW.trans (hb_.mono (hAB ▸ hbW.size))
          clear hbW hb_; have hbW := hbW'; clear hbW'
          have hc := begun_any w32
          have HC := Lib.hid hc; clear hc
          have c_hA_0 : w32.cell? ⟨AB, 0, none⟩ = some (.slice pp pg.length cp) := hA.cell 0
          have c_hA_1 : w32.cell? ⟨AB, 1, none⟩ = some (.slice pu us.length cu) := hA.cell 1
          have c_hA_2 : w32.cell? ⟨AB, 2, none⟩ = some (.slice pr rs.length cr) := hA.cell 2
          have c_hD_0 : w32.cell? ⟨OD, 0, none⟩ = some (.slice zp zl.length zc) := hD.cell 0
          have c_hD_1 : w32.cell? ⟨OD, 1, none⟩ = some (.slice zq zm.length zd) := hD.cell 1
          have c_hD_2 : w32.cell? ⟨OD, 2, none⟩ = some (.slice zr zn.length ze) := hD.cell 2
          go_wp2_with fail
          refine HC.out.mono ?_
          rintro _ w33 ⟨rfl, hb_⟩
          clear HC
          clear c_hA_0 c_hA_1 c_hA_2 c_hD_0 c_hD_1 c_hD_2
          have hA' := hA.next hb_
          clear hA; have hA := hA'; clear hA'
          have hD' := hD.next hb_
          clear hD; have hD := hD'; clear hD'
          have hx1' := Ds.ok.st _ _ _ hx1 hb_
          clear hx1; have hx1 := hx1'; clear hx1'
          have hz' := Ds.ok.st _ _ _ hz hb_
          clear hz; have hz := hz'; clear hz'
          have hbW' := hbW.trans (hb_.mono (hAB ▸ hbW.size))
          clear hbW hb_; have hbW := hbW'; clear hbW'
          go_wp2_with fail
          go_ret
          exact ⟨rfl, hbW⟩
        · have k7 : (k == 0) = false := by simpa using hk0
          have HK0 := Lib.hid hk0; clear hk0
          have hc := begun_any (w16.alloc (.cells #[.slice zp zl.length zc, .slice zq zm.length zd, .slice zr zn.length ze] 26))
          have HC := Lib.hid hc; clear hc
          go_wp2_with fail
          refine HC.out.mono ?_
          rintro _ wb ⟨rfl, hb_⟩
          clear HC
          have hbW' := hbW.trans (hb_.mono (hAB ▸ hbW.size))
          go_wp2_with fail
          go_ret
          exact ⟨rfl, hbW'⟩
    · have k6 : (r == 0) = false := by simpa using hr0
      have HR0 := Lib.hid hr0; clear hr0 H0 HNE
      have hc := drop_any hx1 root (r := k) (by rw [HS.out]; exact HKK.out)
      have HC := Lib.hid hc; clear hc
      have c_hA_0 : wa.cell? ⟨AB, 0, none⟩ = some (.slice pp pg.length cp) := hA.cell 0
      have c_hA_1 : wa.cell? ⟨AB, 1, none⟩ = some (.slice pu us.length cu) := hA.cell 1
      have c_hA_2 : wa.cell? ⟨AB, 2, none⟩ = some (.slice pr rs.length cr) := hA.cell 2
      go_wp2_with fail
      refine HC.out.mono ?_
      rintro _ w11 ⟨z, rfl, hz, hb_, d0, dne⟩
      clear HC
      clear c_hA_0 c_hA_1 c_hA_2
      have hA' := hA.next hb_
      clear hA; have hA := hA'; clear hA'
      have hx1' := Ds.ok.st _ _ _ hx1 hb_
      clear hx1; have hx1 := hx1'; clear hx1'
      have hbW' := hbW.trans (hb_.mono (hAB ▸ hbW.size))
      clear hbW hb_; have hbW := hbW'; clear hbW'
      rw [HS.out] at d0
      have D0 := Lib.hid d0; clear d0 dne
      obtain ⟨⟨zp, zc, zl⟩, ⟨zq, zd, zm⟩, ⟨zr, ze, zn⟩⟩ := z
      have hal := (Below.refl w11.heap.size w11).alloc (Nat.le_refl _) (.cells #[.slice zp zl.length zc, .slice zq zm.length zd, .slice zr zn.length ze] 26)
      have hD := Blk.mk2 w11 #[.slice zp zl.length zc, .slice zq zm.length zd, .slice zr zn.length ze] 26
      have hA' := hA.next hal
      clear hA; have hA := hA'; clear hA'
      have hx1' := Ds.ok.st _ _ _ hx1 hal
      clear hx1; have hx1 := hx1'; clear hx1'
      have hz' := Ds.ok.st _ _ _ hz hal
      clear hz; have hz := hz'; clear hz'
      have hbW' := hbW.trans (hal.mono (hAB ▸ hbW.size))
      clear hbW hal; have hbW := hbW'; clear hbW'
      by_cases hk0 : k = 0
      · subst hk0
        obtain ⟨d, hd1, hd2, hd3, hd4⟩ := stay_drop (other := other) (where_ := where_) HKK.out
        have hzd : Ds.c ⟨⟨zp, zc, zl⟩, ⟨zq, zd, zm⟩, ⟨zr, ze, zn⟩⟩ = d := (D0.out rfl).trans hd1
        have HZD := Lib.hid hzd; have HD2 := Lib.hid hd2; have HD3 := Lib.hid hd3; clear hzd hd1 hd2 hd3 D0
        generalize hj1 : askedC d other where_ = jj at *
        generalize hj2 : getC d other where_ = nw at *
        have J1 := Lib.hid hj1; have J2 := Lib.hid hj2; clear hj1 hj2 hd4
        have hc := get_any hz other where_ (r := jj) (v := nw) (by rw [HZD.out]; exact J1.out) (by rw [HZD.out]; exact J2.out)
        have HC := Lib.hid hc; clear hc
        have c_hA_0 : (w11.alloc (.cells #[.slice zp zl.length zc, .slice zq zm.length zd, .slice zr zn.length ze] 26)).cell? ⟨AB, 0, none⟩ = some (.slice pp pg.length cp) := hA.cell 0
        have c_hA_1 : (w11.alloc (.cells #[.slice zp zl.length zc, .slice zq zm.length zd, .slice zr zn.length ze] 26)).cell? ⟨AB, 1, none⟩ = some (.slice pu us.length cu) := hA.cell 1
        have c_hA_2 : (w11.alloc (.cells #[.slice zp zl.length zc, .slice zq zm.length zd, .slice zr zn.length ze] 26)).cell? ⟨AB, 2, none⟩ = some (.slice pr rs.length cr) := hA.cell 2
        have c_hD_0 : (w11.alloc (.cells #[.slice zp zl.length zc, .slice zq zm.length zd, .slice zr zn.length ze] 26)).cell? ⟨w11.heap.size, 0, none⟩ = some (.slice zp zl.length zc) := hD.cell 0
        have c_hD_1 : (w11.alloc (.cells #[.slice zp zl.length zc, .slice zq zm.length zd, .slice zr zn.length ze] 26)).cell? ⟨w11.heap.size, 1, none⟩ = some (.slice zq zm.length zd) := hD.cell 1
        have c_hD_2 : (w11.alloc (.cells #[.slice zp zl.length zc, .slice zq zm.length zd, .slice zr zn.length ze] 26)).cell? ⟨w11.heap.size, 2, none⟩ = some (.slice zr zn.length ze) := hD.cell 2
        go_wp2_with fail
        refine HC.out.mono ?_
        rintro _ wb ⟨rfl, hb_⟩
        clear HC
        clear c_hA_0 c_hA_1 c_hA_2 c_hD_0 c_hD_1 c_hD_2
        have hA' := hA.next hb_
        clear hA; have hA := hA'; clear hA'
        have hD' := hD.next hb_
        clear hD; have hD := hD'; clear hD'
        have hx1' := Ds.ok.st _ _ _ hx1 hb_
        clear hx1; have hx1 := hx1'; clear hx1'
        have hz' := Ds.ok.st _ _ _ hz hb_
        clear hz; have hz := hz'; clear hz'
        have hbW' := hbW.trans (hb_.mono (hAB ▸ hbW.size))
        clear hbW hb_; have hbW := hbW'; clear hbW'
        generalize w11.heap.size = OD at *
        generalize hvg : getC d root 0 = vg at *
        have HVG := Lib.hid hvg; clear hvg
        have hc := get_any hz root 0 (r := 5) (v := vg) (by rw [HZD.out]; exact HD3.out) (by rw [HZD.out]; exact HVG.out)
        have HC := Lib.hid hc; clear hc
        have c_hA_0 : wb.cell? ⟨AB, 0, none⟩ = some (.slice pp pg.length cp) := hA.cell 0
        have c_hA_1 : wb.cell? ⟨AB, 1, none⟩ = some (.slice pu us.length cu) := hA.cell 1
        have c_hA_2 : wb.cell? ⟨AB, 2, none⟩ = some (.slice pr rs.length cr) := hA.cell 2
        have c_hD_0 : wb.cell? ⟨OD, 0, none⟩ = some (.slice zp zl.length zc) := hD.cell 0
        have c_hD_1 : wb.cell? ⟨OD, 1, none⟩ = some (.slice zq zm.length zd) := hD.cell 1
        have c_hD_2 : wb.cell? ⟨OD, 2, none⟩ = some (.slice zr zn.length ze) := hD.cell 2
        go_wp2_with fail
        refine HC.out.mono ?_
        rintro _ w31 ⟨rfl, hb_⟩
        clear HC
        clear c_hA_0 c_hA_1 c_hA_2 c_hD_0 c_hD_1 c_hD_2
        have hA' := hA.next hb_
        clear hA; have hA := hA'; clear hA'
        have hD' := hD.next hb_
        clear hD; have hD := hD'; clear hD'
        have hx1' := Ds.ok.st _ _ _ hx1 hb_
        clear hx1; have hx1 := hx1'; clear hx1'
        have hz' := Ds.ok.st _ _ _ hz hb_
        clear hz; have hz := hz'; clear hz'
        have hbW' := hbW.trans (hb_.mono (hAB ▸ hbW.size))
        clear hbW hb_; have hbW := hbW'; clear hbW'
        have hc := check_is hz (r := 0) (by rw [HZD.out]; exact HD2.out)
        have HC := Lib.hid hc; clear hc
        have c_hA_0 : w31.cell? ⟨AB, 0, none⟩ = some (.slice pp pg.length cp) := hA.cell 0
        have c_hA_1 : w31.cell? ⟨AB, 1, none⟩ = some (.slice pu us.length cu) := hA.cell 1
        have c_hA_2 : w31.cell? ⟨AB, 2, none⟩ = some (.slice pr rs.length cr) := hA.cell 2
        have c_hD_0 : w31.cell? ⟨OD, 0, none⟩ = some (.slice zp zl.length zc) := hD.cell 0
        have c_hD_1 : w31.cell? ⟨OD, 1, none⟩ = some (.slice zq zm.length zd) := hD.cell 1
        have c_hD_2 : w31.cell? ⟨OD, 2, none⟩ = some (.slice zr zn.length ze) := hD.cell 2
        go_wp2_with fail
        refine HC.out.mono ?_
        rintro _ w32 ⟨rfl, hb_⟩
        clear HC
        clear c_hA_0 c_hA_1 c_hA_2 c_hD_0 c_hD_1 c_hD_2
        have hA' := hA.next hb_
        clear hA; have hA := hA'; clear hA'
        have hD' := hD.next hb_
        clear hD; have hD := hD'; clear hD'
        have hx1' := Ds.ok.st _ _ _ hx1 hb_
        clear hx1; have hx1 := hx1'; clear hx1'
        have hz' := Ds.ok.st _ _ _ hz hb_
        clear hz; have hz := hz'; clear hz'
        have hbW' := hbW.trans (hb_.mono (hAB ▸ hbW.size))
        clear hbW hb_; have hbW := hbW'; clear hbW'
        have hc := begun_any w32
        have HC := Lib.hid hc; clear hc
        have c_hA_0 : w32.cell? ⟨AB, 0, none⟩ = some (.slice pp pg.length cp) := hA.cell 0
        have c_hA_1 : w32.cell? ⟨AB, 1, none⟩ = some (.slice pu us.length cu) := hA.cell 1
        have c_hA_2 : w32.cell? ⟨AB, 2, none⟩ = some (.slice pr rs.length cr) := hA.cell 2
        have c_hD_0 : w32.cell? ⟨OD, 0, none⟩ = some (.slice zp zl.length zc) := hD.cell 0
        have c_hD_1 : w32.cell? ⟨OD, 1, none⟩ = some (.slice zq zm.length zd) := hD.cell 1
        have c_hD_2 : w32.cell? ⟨OD, 2, none⟩ = some (.slice zr zn.length ze) := hD.cell 2
        go_wp2_with fail
        refine HC.out.mono ?_
        rintro _ w33 ⟨rfl, hb_⟩
        clear HC
        clear c_hA_0 c_hA_1 c_hA_2 c_hD_0 c_hD_1 c_hD_2
        have hA' := hA.next hb_
        clear hA; have hA := hA'; clear hA'
        have hD' := hD.next hb_
        clear hD; have hD := hD'; clear hD'
        have hx1' := Ds.ok.st _ _ _ hx1 hb_
        clear hx1; have hx1 := hx1'; clear hx1'
        have hz' := Ds.ok.st _ _ _ hz hb_
        clear hz; have hz := hz'; clear hz'
        have hbW' := hbW.trans (hb_.mono (hAB ▸ hbW.size))
        clear hbW hb_; have hbW := hbW'; clear hbW'
        go_wp2_with fail
        go_ret
        exact ⟨rfl, hbW⟩
      · have k7 : (k == 0) = false := by simpa using hk0
        have HK0 := Lib.hid hk0; clear hk0
        have hc := begun_any (w11.alloc (.cells #[.slice zp zl.length zc, .slice zq zm.length zd, .slice zr zn.length ze] 26))
        have HC := Lib.hid hc; clear hc
        go_wp2_with fail
        refine HC.out.mono ?_
        rintro _ wb ⟨rfl, hb_⟩
        clear HC
        have hbW' := hbW.trans (hb_.mono (hAB ▸ hbW.size))
        go_wp2_with fail
        go_ret
        exact ⟨rfl, hbW'⟩
end Go.Proofs.Ytcnppcddpcpeoaa
