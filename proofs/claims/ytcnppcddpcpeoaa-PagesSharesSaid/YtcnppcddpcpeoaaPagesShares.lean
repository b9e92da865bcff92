/-
  The walk of PagesShares.
-/
import Derived.Test.YtcnppcddpcpeoaaBegun
import Derived.Test.YtcnppcddpcpeoaaLaws3
namespace Go.Proofs.Ytcnppcddpcpeoaa
open Go.RowKit

set_option maxHeartbeats 4000000 in
theorem pagesShares_any {W : World} {x : Ds} (hx : x.ok W) (root at_ v : Int) :
    Calls Try.prog 3 #[x.val, .int .i64 root, .int .i64 at_, .int .i64 v] W fun e w' => e = .returned (.bool true) ∧ Below W.heap.size W w' := by
  obtain ⟨⟨pp, cp, pg⟩, ⟨pu, cu, us⟩, ⟨pr, cr, rs⟩⟩ := x
  have hbW := (Below.refl W.heap.size W).alloc (Nat.le_refl _) (.cells #[.slice pp pg.length cp, .slice pu us.length cu, .slice pr rs.length cr] 26)
  have hA := Blk.mk2 W #[.slice pp pg.length cp, .slice pu us.length cu, .slice pr rs.length cr] 26
  have hx1 := Ds.ok.st _ _ _ hx hbW
  clear hx
  generalize hs : Ds.c ⟨⟨pp, cp, pg⟩, ⟨pu, cu, us⟩, ⟨pr, cr, rs⟩⟩ = s at *
  have HS := Lib.hid hs; clear hs
  go_enter Try.func3, Try.ntmps3
  refine wp_seq_k fun K hK => ?_
  have HK := Lib.hid hK; clear hK
  go_wp2_with fail
  refine HK.out _ _ ?_
  clear HK K
  generalize W.alloc (.cells #[.slice pp pg.length cp, .slice pu us.length cu, .slice pr rs.length cr] 26) = w0 at *
  generalize hAB : W.heap.size = AB at *
  have hc := begun_any w0
  have HC := Lib.hid hc; clear hc
  have c_hA_0 : w0.cell? ⟨AB, 0, none⟩ = some (.slice pp pg.length cp) := hA.cell 0
  have c_hA_1 : w0.cell? ⟨AB, 1, none⟩ = some (.slice pu us.length cu) := hA.cell 1
  have c_hA_2 : w0.cell? ⟨AB, 2, none⟩ = some (.slice pr rs.length cr) := hA.cell 2
  go_wp2_with fail
  refine HC.out.mono ?_
  rintro _ w1 ⟨rfl, hb_⟩
  clear HC
  clear c_hA_0 c_hA_1 c_hA_2
  have hA' := hA.next hb_
  clear hA; have hA := hA'; clear hA'
  have hx1' := Ds.ok.st _ _ _ hx1 hb_
  clear hx1; have hx1 := hx1'; clear hx1'
  have hbW' := hbW.trans (hb_.mono (hAB ▸ hbW.size))
  clear hbW hb_; have hbW := hbW'; clear hbW'
  generalize hsr : setR s root at_ v = r at *
  have HSR := Lib.hid hsr; clear hsr
  have hc := set_any hx1 root at_ v (r := r) (by rw [HS.out]; exact HSR.out)
  have HC := Lib.hid hc; clear hc
  have c_hA_0 : w1.cell? ⟨AB, 0, none⟩ = some (.slice pp pg.length cp) := hA.cell 0
  have c_hA_1 : w1.cell? ⟨AB, 1, none⟩ = some (.slice pu us.length cu) := hA.cell 1
  have c_hA_2 : w1.cell? ⟨AB, 2, none⟩ = some (.slice pr rs.length cr) := hA.cell 2
  go_wp2_with fail
  refine HC.out.mono ?_
  rintro _ w2 ⟨y, n, rfl, hy, hb_, h0, hne⟩
  clear HC
  clear c_hA_0 c_hA_1 c_hA_2
  have hA' := hA.next hb_
  clear hA; have hA := hA'; clear hA'
  have hx1' := Ds.ok.st _ _ _ hx1 hb_
  clear hx1; have hx1 := hx1'; clear hx1'
  have hbW' := hbW.trans (hb_.mono (hAB ▸ hbW.size))
  clear hbW hb_; have hbW := hbW'; clear hbW'
  rw [HS.out] at h0
  obtain ⟨⟨yp, yc, yl⟩, ⟨yq, yd, ym⟩, ⟨yr, ye, yn⟩⟩ := y
  have hal := (Below.refl w2.heap.size w2).alloc (Nat.le_refl _) (.cells #[.slice yp yl.length yc, .slice yq ym.length yd, .slice yr yn.length ye] 26)
  have hB := Blk.mk2 w2 #[.slice yp yl.length yc, .slice yq ym.length yd, .slice yr yn.length ye] 26
  have hA' := hA.next hal
  clear hA; have hA := hA'; clear hA'
  have hx1' := Ds.ok.st _ _ _ hx1 hal
  clear hx1; have hx1 := hx1'; clear hx1'
  have hy' := Ds.ok.st _ _ _ hy hal
  clear hy; have hy := hy'; clear hy'
  have hbW' := hbW.trans (hal.mono (hAB ▸ hbW.size))
  clear hbW hal; have hbW := hbW'; clear hbW'
  by_cases hr0 : r = 0
  · subst hr0
    obtain ⟨hyc, hn⟩ := h0 rfl
    obtain ⟨t, ht, n', hn', a1, a2, a3, a4, own, both, mine, turned, v1, v2, v3, v4, e1, e2, e3, e4, e5, e6, e7, e8, e9⟩ := shares_ok HSR.out
    have hnn : n = n' := hn.trans hn'
    have hyt : Ds.c ⟨⟨yp, yc, yl⟩, ⟨yq, yd, ym⟩, ⟨yr, ye, yn⟩⟩ = t := hyc.trans ht
    clear hn hn' hyc ht h0 hne
    subst hnn
    subst e1
    have HYT := Lib.hid hyt; have A1 := Lib.hid a1; have A2 := Lib.hid a2; have A3 := Lib.hid a3; have A4 := Lib.hid a4; have V1 := Lib.hid v1; have V2 := Lib.hid v2; have V3 := Lib.hid v3; have V4 := Lib.hid v4
    clear hyt a1 a2 a3 a4 v1 v2 v3 v4
    have hc := shared_any hx1 root root (r := 0) (v := own) (by rw [HS.out]; exact A1.out) (by rw [HS.out]; exact V1.out)
    have HC := Lib.hid hc; clear hc
    have c_hA_0 : (w2.alloc (.cells #[.slice yp yl.length yc, .slice yq ym.length yd, .slice yr yn.length ye] 26)).cell? ⟨AB, 0, none⟩ = some (.slice pp pg.length cp) := hA.cell 0
    have c_hA_1 : (w2.alloc (.cells #[.slice yp yl.length yc, .slice yq ym.length yd, .slice yr yn.length ye] 26)).cell? ⟨AB, 1, none⟩ = some (.slice pu us.length cu) := hA.cell 1
    have c_hA_2 : (w2.alloc (.cells #[.slice yp yl.length yc, .slice yq ym.length yd, .slice yr yn.length ye] 26)).cell? ⟨AB, 2, none⟩ = some (.slice pr rs.length cr) := hA.cell 2
    have c_hB_0 : (w2.alloc (.cells #[.slice yp yl.length yc, .slice yq ym.length yd, .slice yr yn.length ye] 26)).cell? ⟨w2.heap.size, 0, none⟩ = some (.slice yp yl.length yc) := hB.cell 0
    have c_hB_1 : (w2.alloc (.cells #[.slice yp yl.length yc, .slice yq ym.length yd, .slice yr yn.length ye] 26)).cell? ⟨w2.heap.size, 1, none⟩ = some (.slice yq ym.length yd) := hB.cell 1
    have c_hB_2 : (w2.alloc (.cells #[.slice yp yl.length yc, .slice yq ym.length yd, .slice yr yn.length ye] 26)).cell? ⟨w2.heap.size, 2, none⟩ = some (.slice yr yn.length ye) := hB.cell 2
    go_wp2_with fail
    refine HC.out.mono ?_
    rintro _ wa ⟨rfl, hb_⟩
    clear HC
    clear c_hA_0 c_hA_1 c_hA_2 c_hB_0 c_hB_1 c_hB_2
    have hA' := hA.next hb_
    clear hA; have hA := hA'; clear hA'
    have hB' := hB.next hb_
    clear hB; have hB := hB'; clear hB'
    have hx1' := Ds.ok.st _ _ _ hx1 hb_
    clear hx1; have hx1 := hx1'; clear hx1'
    have hy' := Ds.ok.st _ _ _ hy hb_
    clear hy; have hy := hy'; clear hy'
    have hbW' := hbW.trans (hb_.mono (hAB ▸ hbW.size))
    clear hbW hb_; have hbW := hbW'; clear hbW'
    generalize w2.heap.size = OB at *
    have hc := shared_any hy root n (r := 0) (v := both) (by rw [HYT.out]; exact A2.out) (by rw [HYT.out]; exact V2.out)
    have HC := Lib.hid hc; clear hc
    have c_hA_0 : wa.cell? ⟨AB, 0, none⟩ = some (.slice pp pg.length cp) := hA.cell 0
    have c_hA_1 : wa.cell? ⟨AB, 1, none⟩ = some (.slice pu us.length cu) := hA.cell 1
    have c_hA_2 : wa.cell? ⟨AB, 2, none⟩ = some (.slice pr rs.length cr) := hA.cell 2
    have c_hB_0 : wa.cell? ⟨OB, 0, none⟩ = some (.slice yp yl.length yc) := hB.cell 0
    have c_hB_1 : wa.cell? ⟨OB, 1, none⟩ = some (.slice yq ym.length yd) := hB.cell 1
    have c_hB_2 : wa.cell? ⟨OB, 2, none⟩ = some (.slice yr yn.length ye) := hB.cell 2
    go_wp2_with fail
    refine HC.out.mono ?_
    rintro _ w11 ⟨rfl, hb_⟩
    clear HC
    clear c_hA_0 c_hA_1 c_hA_2 c_hB_0 c_hB_1 c_hB_2
    have hA' := hA.next hb_
    clear hA; have hA := hA'; clear hA'
    have hB' := hB.next hb_
    clear hB; have hB := hB'; clear hB'
    have hx1' := Ds.ok.st _ _ _ hx1 hb_
    clear hx1; have hx1 := hx1'; clear hx1'
    have hy' := Ds.ok.st _ _ _ hy hb_
    clear hy; have hy := hy'; clear hy'
    have hbW' := hbW.trans (hb_.mono (hAB ▸ hbW.size))
    clear hbW hb_; have hbW := hbW'; clear hbW'
    have hc := shared_any hy n n (r := 0) (v := mine) (by rw [HYT.out]; exact A3.out) (by rw [HYT.out]; exact V3.out)
    have HC := Lib.hid hc; clear hc
    have c_hA_0 : w11.cell? ⟨AB, 0, none⟩ = some (.slice pp pg.length cp) := hA.cell 0
    have c_hA_1 : w11.cell? ⟨AB, 1, none⟩ = some (.slice pu us.length cu) := hA.cell 1
    have c_hA_2 : w11.cell? ⟨AB, 2, none⟩ = some (.slice pr rs.length cr) := hA.cell 2
    have c_hB_0 : w11.cell? ⟨OB, 0, none⟩ = some (.slice yp yl.length yc) := hB.cell 0
    have c_hB_1 : w11.cell? ⟨OB, 1, none⟩ = some (.slice yq ym.length yd) := hB.cell 1
    have c_hB_2 : w11.cell? ⟨OB, 2, none⟩ = some (.slice yr yn.length ye) := hB.cell 2
    go_wp2_with fail
    refine HC.out.mono ?_
    rintro _ w12 ⟨rfl, hb_⟩
    clear HC
    clear c_hA_0 c_hA_1 c_hA_2 c_hB_0 c_hB_1 c_hB_2
    have hA' := hA.next hb_
    clear hA; have hA := hA'; clear hA'
    have hB' := hB.next hb_
    clear hB; have hB := hB'; clear hB'
    have hx1' := Ds.ok.st _ _ _ hx1 hb_
    clear hx1; have hx1 := hx1'; clear hx1'
    have hy' := Ds.ok.st _ _ _ hy hb_
    clear hy; have hy := hy'; clear hy'
    have hbW' := hbW.trans (hb_.mono (hAB ▸ hbW.size))
    clear hbW hb_; have hbW := hbW'; clear hbW'
    have hc := shared_any hy n root (r := 0) (v := both) (by rw [HYT.out]; exact A4.out) (by rw [HYT.out]; exact V4.out)
    have HC := Lib.hid hc; clear hc
    have c_hA_0 : w12.cell? ⟨AB, 0, none⟩ = some (.slice pp pg.length cp) := hA.cell 0
    have c_hA_1 : w12.cell? ⟨AB, 1, none⟩ = some (.slice pu us.length cu) := hA.cell 1
    have c_hA_2 : w12.cell? ⟨AB, 2, none⟩ = some (.slice pr rs.length cr) := hA.cell 2
    have c_hB_0 : w12.cell? ⟨OB, 0, none⟩ = some (.slice yp yl.length yc) := hB.cell 0
    have c_hB_1 : w12.cell? ⟨OB, 1, none⟩ = some (.slice yq ym.length yd) := hB.cell 1
    have c_hB_2 : w12.cell? ⟨OB, 2, none⟩ = some (.slice yr yn.length ye) := hB.cell 2
    go_wp2_with fail
    refine HC.out.mono ?_
    rintro _ w13 ⟨rfl, hb_⟩
    clear HC
    clear c_hA_0 c_hA_1 c_hA_2 c_hB_0 c_hB_1 c_hB_2
    have hA' := hA.next hb_
    clear hA; have hA := hA'; clear hA'
    have hB' := hB.next hb_
    clear hB; have hB := hB'; clear hB'
    have hx1' := Ds.ok.st _ _ _ hx1 hb_
    clear hx1; have hx1 := hx1'; clear hx1'
    have hy' := Ds.ok.st _ _ _ hy hb_
    clear hy; have hy := hy'; clear hy'
    have hbW' := hbW.trans (hb_.mono (hAB ▸ hbW.size))
    clear hbW hb_; have hbW := hbW'; clear hbW'
    have hc := begun_any w13
    have HC := Lib.hid hc; clear hc
    have c_hA_0 : w13.cell? ⟨AB, 0, none⟩ = some (.slice pp pg.length cp) := hA.cell 0
    have c_hA_1 : w13.cell? ⟨AB, 1, none⟩ = some (.slice pu us.length cu) := hA.cell 1
    have c_hA_2 : w13.cell? ⟨AB, 2, none⟩ = some (.slice pr rs.length cr) := hA.cell 2
    have c_hB_0 : w13.cell? ⟨OB, 0, none⟩ = some (.slice yp yl.length yc) := hB.cell 0
    have c_hB_1 : w13.cell? ⟨OB, 1, none⟩ = some (.slice yq ym.length yd) := hB.cell 1
    have c_hB_2 : w13.cell? ⟨OB, 2, none⟩ = some (.slice yr yn.length ye) := hB.cell 2
    go_wp2_with fail
    refine HC.out.mono ?_
    rintro _ w14 ⟨rfl, hb_⟩
    clear HC
    clear c_hA_0 c_hA_1 c_hA_2 c_hB_0 c_hB_1 c_hB_2
    have hA' := hA.next hb_
    clear hA; have hA := hA'; clear hA'
    have hB' := hB.next hb_
    clear hB; have hB := hB'; clear hB'
    have hx1' := Ds.ok.st _ _ _ hx1 hb_
    clear hx1; have hx1 := hx1'; clear hx1'
    have hy' := Ds.ok.st _ _ _ hy hb_
    clear hy; have hy := hy'; clear hy'
    have hbW' := hbW.trans (hb_.mono (hAB ▸ hbW.size))
    clear hbW hb_; have hbW := hbW'; clear hbW'
    go_wp2_with fail
    go_ret
    exact ⟨rfl, hbW⟩
  · have k1 : (r != 0) = true := by simpa using hr0
    have HR0 := Lib.hid hr0; clear hr0 h0 hne
    have hc := begun_any (w2.alloc (.cells #[.slice yp yl.length yc, .slice yq ym.length yd, .slice yr yn.length ye] 26))
    have HC := Lib.hid hc; clear hc
    go_wp2_with fail
    refine HC.out.mono ?_
    rintro _ wa ⟨rfl, hb_⟩
    clear HC
    have hbW' := hbW.trans (hb_.mono (hAB ▸ hbW.size))
    go_wp2_with fail
    go_ret
    exact ⟨rfl, hbW'⟩
end Go.Proofs.Ytcnppcddpcpeoaa
