/-
  What must be in any case.
-/
import Derived.Test.YtcnppcddpcpeoaaLaws2
import Derived.Test.YtcnppcddpcpeoaaNew
namespace Go.Proofs.Ytcnppcddpcpeoaa
open Go.RowKit Go.Sort

theorem new_ok : Ok newC := by
  refine ⟨by decide, by decide, fun r hr => ?_, rfl, fun i hi => by simp [newC] at hi⟩
  obtain rfl : r = List.replicate 16 (-1) := by simpa [newC] using hr
  exact ⟨.inr rfl, fun p hp => .inl (List.eq_of_mem_replicate hp)⟩
theorem new_there : There newC 0 := ⟨by decide, by decide, by decide⟩
theorem new_asked : askedC newC 0 5 = 0 := askedC_zero.2 ⟨new_ok, new_there, by decide, by decide⟩
def begunC : DsC := ⟨[⟨0, 7, 0, 0⟩], [1], [List.replicate 16 (-1), (List.replicate 16 (-1)).set 1 0]⟩
theorem begun_set : setC newC 0 5 7 = begunC := by rfl
theorem begun_setR : setR newC 0 5 7 = 0 := by
  unfold setR
  rw [if_neg (by rw [new_asked]; simp)]
  show (if 400 < (setC newC 0 5 7).pages.length ∨ 40 < (setC newC 0 5 7).roots.length then (2 : Int) else 0) = 0
  rw [begun_set]
  rfl
theorem begun_ok : SetOk newC begunC 0 5 7 := by
  have := set_ok new_ok (q := 0) (a := 5) (by decide) (by decide) (by decide) 7 (by rw [begun_set]; decide) (by rw [begun_set]; decide)
  rwa [begun_set] at this
theorem begun_there1 : There begunC 1 := ⟨by decide, by decide, by decide⟩
theorem begun_there0 : There begunC 0 := ⟨by decide, by decide, by decide⟩
theorem begun_asked1 : askedC begunC 1 5 = 0 := askedC_zero.2 ⟨begun_ok.ok, begun_there1, by decide, by decide⟩
theorem begun_asked0 : askedC begunC 0 5 = 0 := askedC_zero.2 ⟨begun_ok.ok, begun_there0, by decide, by decide⟩
theorem begun_get1 : getC begunC 1 5 = 7 := by unfold getC; rw [if_pos begun_asked1]; rfl
theorem begun_get0 : getC begunC 0 5 = 0 := by unfold getC; rw [if_pos begun_asked0]; rfl
theorem begun_check : checkC begunC = 0 := checkC_zero.2 begun_ok.ok

set_option maxHeartbeats 2000000 in
theorem begun_any (W : World) : Calls Try.prog 6 #[] W fun e W' => e = .returned (.bool true) ∧ Below W.heap.size W W' := by
  go_enter Try.func6, Try.ntmps6
  go_wp2_with fail
  refine (new_any W).mono ?_
  rintro _ w1 ⟨x, rfl, hxc, hx, hb1⟩
  have hs := set_any hx 0 5 7 (r := 0) (by rw [hxc]; exact begun_setR)
  have HS := Lib.hid hs; clear hs
  go_wp2_with fail
  refine HS.out.mono ?_
  rintro _ w2 ⟨y, n, rfl, hy, hb2, h0, -⟩
  obtain ⟨hyc0, hn0⟩ := h0 rfl
  have hyc : y.c = begunC := by rw [hyc0, hxc]; exact begun_set
  have hn : n = 1 := by rw [hn0, hxc]; rfl
  clear HS hx h0 hxc hyc0 hn0
  subst hn
  obtain ⟨⟨pp, cp, pg⟩, ⟨pu, cu, us⟩, ⟨pr, cr, rs⟩⟩ := y
  have hbb := hb1.trans (hb2.mono hb1.size)
  have hal := (Below.refl w2.heap.size w2).alloc (Nat.le_refl _) (.cells #[.slice pp pg.length cp, .slice pu us.length cu, .slice pr rs.length cr] 26)
  have hB := Blk.mk2 w2 #[.slice pp pg.length cp, .slice pu us.length cu, .slice pr rs.length cr] 26
  have hy2 := Ds.ok.st _ _ _ hy hal
  have hb3 := hbb.trans (hal.mono hbb.size)
  have hgt := get_any hy2 1 5 (r := 0) (v := 7) (by rw [hyc]; exact begun_asked1) (by rw [hyc]; exact begun_get1)
  have HG := Lib.hid hgt
  have HYC := Lib.hid hyc; clear hgt hyc hb1 hb2 hbb hy hal
  go_wp2_with fail
  refine HG.out.mono ?_
  rintro _ w3 ⟨rfl, hb⟩
  clear HG
  have hB3 := hB.next hb; have hy3 := Ds.ok.st _ _ _ hy2 hb
  have hb4 := hb3.trans (hb.mono hb3.size)
  clear hB hy2 hb3 hb
  generalize w2.heap.size = OB at *
  have hgt := get_any hy3 0 5 (r := 0) (v := 0) (by rw [HYC.out]; exact begun_asked0) (by rw [HYC.out]; exact begun_get0)
  have HG := Lib.hid hgt; clear hgt
  have b0 : w3.cell? ⟨OB, 0, none⟩ = some (.slice pp pg.length cp) := hB3.cell 0
  have b1 : w3.cell? ⟨OB, 1, none⟩ = some (.slice pu us.length cu) := hB3.cell 1
  have b2 : w3.cell? ⟨OB, 2, none⟩ = some (.slice pr rs.length cr) := hB3.cell 2
  go_wp2_with fail
  refine HG.out.mono ?_
  rintro _ w4 ⟨rfl, hb⟩
  clear HG b0 b1 b2
  have hB4 := hB3.next hb; have hy4 := Ds.ok.st _ _ _ hy3 hb
  have hb5 := hb4.trans (hb.mono hb4.size)
  clear hB3 hy3 hb4 hb
  have hcheck := check_any hy4
  rw [HYC.out, begun_check] at hcheck
  have HCK := Lib.hid hcheck; clear hcheck
  have hpg : pg.length = 1 := by have := congrArg (fun z => z.pages.length) HYC.out; exact this
  have hus : us = [1] := by have := congrArg DsC.uses HYC.out; exact this
  subst hus
  obtain ⟨bu, ou, hpu, -, hcu⟩ := hy4.uses.at_ (i := 0) (by simp)
  dsimp only at hpu
  subst hpu
  have b0 : w4.cell? ⟨OB, 0, none⟩ = some (.slice pp pg.length cp) := hB4.cell 0
  have b1 : w4.cell? ⟨OB, 1, none⟩ = some (.slice (some ⟨bu, ou, none⟩) [(1 : Int)].length cu) := hB4.cell 1
  have b2 : w4.cell? ⟨OB, 2, none⟩ = some (.slice pr rs.length cr) := hB4.cell 2
  have HPG := Lib.hid hpg; clear hpg hcu
  go_wp2_with fail
  refine HCK.out.mono ?_
  rintro _ w5 ⟨rfl, hb⟩
  have hB5 := hB4.next hb; have hy5 := Ds.ok.st _ _ _ hy4 hb
  have hb6 := hb5.trans (hb.mono hb5.size)
  obtain ⟨bu2, ou2, hpu2, -, hcu⟩ := hy5.uses.at_ (i := 0) (by simp)
  simp only [Option.some.injEq, Addr.mk.injEq, and_true] at hpu2
  obtain ⟨rfl, rfl⟩ := hpu2
  have hcu2 : w5.cell? ⟨bu, ou, none⟩ = some (.int .i64 1) := hcu
  have c0 : w5.cell? ⟨OB, 0, none⟩ = some (.slice pp 1 cp) := by rw [← HPG.out]; exact hB5.cell 0
  have c1 : w5.cell? ⟨OB, 1, none⟩ = some (.slice (some ⟨bu, ou, none⟩) 1 cu) := hB5.cell 1
  clear b0 b1 b2 HCK hB4 hy4 hb5 hcu hb
  go_wp2_with fail
  go_ret
  exact ⟨rfl, hb6⟩
end Go.Proofs.Ytcnppcddpcpeoaa
