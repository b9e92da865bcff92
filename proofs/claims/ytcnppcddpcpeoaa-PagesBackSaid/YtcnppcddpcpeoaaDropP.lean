/-
  Drop.
-/
import Derived.Test.YtcnppcddpcpeoaaOw2
import Derived.Test.YtcnppcddpcpeoaaGet
namespace Go.Proofs.Ytcnppcddpcpeoaa
open Go.RowKit

abbrev Ds.none : Ds := ⟨Sv.none, Sv.none, Sv.none⟩
/-- What Drop answers. -/
def DropPost (S : Nat) (s : DsC) (root r : Int) (W : World) (e : Ending) (W' : World) : Prop :=
  ∃ y : Ds, e = .returned (.tuple #[y.val, .int .i64 r]) ∧ y.ok W' ∧ Below S W W' ∧ (r = 0 → y.c = dropC s root.toNat) ∧ (r ≠ 0 → y = Ds.none)
theorem Ds.none_ok (W : World) : Ds.none.ok W := ⟨Rd.zero _, Sl.zero _ _, Rd.zero _⟩
def LoB (u : List Int) (m : Nat) : Prop := ∀ i, -(m : Int) ≤ u.getD i 0 ∧ u.getD i 0 ≤ 1000
theorem LoB.step {u : List Int} {m : Nat} (h : LoB u m) (i : Nat) : LoB (u.set i (u.getD i 0 - 1)) (m + 1) := fun j => by
  have h1 := h i
  have h2 := h j
  by_cases hi : i < u.length
  · by_cases e : i = j
    · subst e; simp [hi] at h1 ⊢; omega
    · simp only [List.getD_eq_getElem?_getD, List.getElem?_set, if_neg e] at h1 h2 ⊢; omega
  · rw [List.set_eq_of_length_le (by omega)]; omega
theorem LoB.mono {u : List Int} {m n : Nat} (h : LoB u m) (hm : m ≤ n) : LoB u n := fun j => by have := h j; omega
theorem count_le_length (r : List Int) (x : Int) : r.count x ≤ r.length := List.count_le_length
theorem cnt_le {l : List (List Int)} {n : Nat} (h : ∀ r ∈ l, rootOk n r) (i : Nat) : cnt l i ≤ 16 * l.length := by
  induction l with
  | nil => simp [cnt]
  | cons r l ih =>
    have h1 := ih fun r hr => h r (by simp [hr])
    have h2 := count_le_length r (i : Int)
    have h3 : r.length ≤ 16 := by rcases (h r (by simp)).1 with h | h <;> simp [h]
    have h4 : cnt (r :: l) i = r.count (i : Int) + cnt l i := rfl
    rw [h4, List.length_cons]; omega
theorem Ok.lo {s : DsC} (h : Ok s) : LoB s.uses 0 := fun i => by
  rw [h.uses]
  by_cases hi : i < s.pages.length
  · rw [range_map_get _ _ _ hi]
    have := cnt_le h.form i
    have h4 := h.nr
    omega
  · simp [hi]
theorem dropStep_len (x : List Pg × List Int) (p : Int) : (dropStep x p).1.length = x.1.length ∧ (dropStep x p).2.length = x.2.length := by
  unfold dropStep
  split
  · dsimp only; split <;> simp
  · exact ⟨rfl, rfl⟩
theorem drops_len (r : List Int) (x : List Pg × List Int) : (r.foldl dropStep x).1.length = x.1.length ∧ (r.foldl dropStep x).2.length = x.2.length := by
  induction r generalizing x with
  | nil => exact ⟨rfl, rfl⟩
  | cons p r ih => rw [List.foldl_cons]; have h1 := ih (dropStep x p); have h2 := dropStep_len x p; exact ⟨h1.1.trans h2.1, h1.2.trans h2.2⟩

set_option maxHeartbeats 1500000 in
theorem drop_any {W : World} {x : Ds} (hx : x.ok W) (root : Int) {r : Int} (hr : thereL x.c [root] = r) :
    Calls Try.prog 11 #[x.val, .int .i64 root] W fun e W' => DropPost W.heap.size x.c root r W e W' := by
  obtain ⟨⟨pp, cp, pg⟩, ⟨pu, cu, us⟩, ⟨pr, cr, rs⟩⟩ := x
  have hb0 := ((Below.refl W.heap.size W).alloc (Nat.le_refl _) (.cells #[.slice pp pg.length cp, .slice pu us.length cu, .slice pr rs.length cr] 26)).alloc (by simp) (.cells #[.slice none 0 0, .slice none 0 0, .slice none 0 0] 26)
  have hA0 := (Blk.mk2 W #[.slice pp pg.length cp, .slice pu us.length cu, .slice pr rs.length cr] 26).alloc (.cells #[.slice none 0 0, .slice none 0 0, .slice none 0 0] 26)
  have hR0 : Blk ((W.alloc (.cells #[.slice pp pg.length cp, .slice pu us.length cu, .slice pr rs.length cr] 26)).alloc (.cells #[.slice none 0 0, .slice none 0 0, .slice none 0 0] 26)) (W.heap.size + 1) #[.slice none 0 0, .slice none 0 0, .slice none 0 0] 26 := Blk.mk_ _ _ _ (by simp)
  generalize hbn : W.heap.size = S at *
  generalize hs : Ds.c ⟨⟨pp, cp, pg⟩, ⟨pu, cu, us⟩, ⟨pr, cr, rs⟩⟩ = s at *
  have HS := Lib.hid hs; have HR := Lib.hid hr; clear hr
  go_enter Try.func11, Try.ntmps11
  refine wp_seq_k fun K hK => ?_
  have HK := Lib.hid hK; clear hK
  go_wp2_with fail
  refine HK.out _ _ ?_
  clear HK K
  generalize (W.alloc (.cells #[.slice pp pg.length cp, .slice pu us.length cu, .slice pr rs.length cr] 26)).alloc (.cells #[.slice none 0 0, .slice none 0 0, .slice none 0 0] 26) = w1 at *
  have A0 : w1.cell? ⟨S, 0, none⟩ = some (.slice pp pg.length cp) := hA0.cell 0
  have A1 : w1.cell? ⟨S, 1, none⟩ = some (.slice pu us.length cu) := hA0.cell 1
  have A2 : w1.cell? ⟨S, 2, none⟩ = some (.slice pr rs.length cr) := hA0.cell 2
  have hal := (Below.refl w1.heap.size w1).alloc (Nat.le_refl _) (.cells #[.int .i64 root] 3)
  have hx2 := Ds.ok.st _ _ _ (Ds.ok.st _ _ _ hx (hbn ▸ hb0)) hal
  have hlit := lit_sl w1 [root] (by simp) #[.int .i64 root] rfl _ rfl 1 rfl
  have hb1 := hb0.trans (hal.mono (hbn ▸ hb0.size))
  have hA1 := hA0.next hal; have hR1 := hR0.next hal
  have hcall := there_any hx2 hlit (r := r) (by rw [hs]; exact HR.out)
  have HC := Lib.hid hcall; clear hcall hs hlit hx2
  go_wp2_with fail
  refine HC.out.mono ?_
  rintro _ w2 ⟨rfl, hb⟩
  have hb2 := hb1.trans (hb.mono (hbn ▸ hb1.size))
  have hA2 := hA1.next hb; have hR2 := hR1.next hb
  clear A0 A1 A2 HC hA1 hb1 hb hal hb0 hA0 hR0 hR1
  have f0 := hR2.frozen 0; have f1 := hR2.frozen 1; have f2 := hR2.frozen 2
  have z0 : w2.cell? ⟨S + 1, 0, none⟩ = some (.slice none 0 0) := hR2.cell 0
  have z1 : w2.cell? ⟨S + 1, 1, none⟩ = some (.slice none 0 0) := hR2.cell 1
  have z2 : w2.cell? ⟨S + 1, 2, none⟩ = some (.slice none 0 0) := hR2.cell 2
  rcases (Classical.em (r = 0)).symm with h0 | h0
  · have k1 : (r != 0) = true := by simpa using h0
    have H0 := Lib.hid h0; clear h0
    go_wp2_with fail
    clear z0 z1 z2 f0 f1 f2
    have hZ3 := ((hR2.set 0 (.slice none 0 0)).set 1 (.slice none 0 0)).set 2 (.slice none 0 0)
    have hb3 := ((hb2.setCell (p := ⟨S + 1, 0, none⟩) (by show S ≤ S + 1; omega) (.slice none 0 0)).setCell (p := ⟨S + 1, 1, none⟩) (by show S ≤ S + 1; omega) (.slice none 0 0)).setCell (p := ⟨S + 1, 2, none⟩) (by show S ≤ S + 1; omega) (.slice none 0 0)
    generalize ((w2.setCell ⟨S + 1, 0, none⟩ (.slice none 0 0)).setCell ⟨S + 1, 1, none⟩ (.slice none 0 0)).setCell ⟨S + 1, 2, none⟩ (.slice none 0 0) = wq at *
    have D0 : wq.cell? ⟨S + 1, 0, none⟩ = some (.slice none 0 0) := hZ3.cell 0
    have D1 : wq.cell? ⟨S + 1, 1, none⟩ = some (.slice none 0 0) := hZ3.cell 1
    have D2 : wq.cell? ⟨S + 1, 2, none⟩ = some (.slice none 0 0) := hZ3.cell 2
    exact bodyPost_ret (v := .tuple #[Ds.none.val, .int .i64 r]) (by simp [results, Try.results11, go_sem, D0, D1, D2, Ds.val, Sv.val]) rfl ⟨Ds.none, rfl, Ds.none_ok _, hb3, fun h => absurd h H0.out, fun _ => rfl⟩
  · subst h0
    clear z0 z1 z2 f0 f1 f2
    obtain ⟨hok, hth⟩ := thereL_zero.1 HR.out
    obtain ⟨q, rfl, hq, h16, hro⟩ := there_row hok (hth root (by simp))
    have A0 : w2.cell? ⟨S, 0, none⟩ = some (.slice pp pg.length cp) := hA2.cell 0
    have A1 : w2.cell? ⟨S, 1, none⟩ = some (.slice pu us.length cu) := hA2.cell 1
    have A2 : w2.cell? ⟨S, 2, none⟩ = some (.slice pr rs.length cr) := hA2.cell 2
    have hs := HS.out
    have hok2 := hok; rw [← hs] at hok2
    have hpl : pg.length ≤ 400 := hok2.np
    have hul : us.length = pg.length := by have := hok2.uses; have h3 : us = _ := this; rw [h3]; simp [Ds.c]
    have hrl : rs.length ≤ 40 := by have := hok2.nr; simpa [Ds.c] using this
    have hr16 : ∀ t ∈ rs, t.l.length ≤ 16 := fun t ht => by
      rcases (hok2.form t.l (List.mem_map.2 ⟨t, ht, rfl⟩)).1 with h | h
      · rw [h]; simp
      · omega
    have hcall := own_any (Ds.ok.st _ _ _ hx (hbn ▸ hb2)) (x := ⟨⟨pp, cp, pg⟩, ⟨pu, cu, us⟩, ⟨pr, cr, rs⟩⟩) hpl (by show us.length ≤ 400; omega) hrl hr16
    have hlo : LoB us 0 := hok2.lo
    have HC := Lib.hid hcall; have HLO := Lib.hid hlo; have HUL := Lib.hid hul
    rw [hs] at HC
    clear hcall hs hlo hok2 hr16 hx hul
    go_wp2_with fail
    refine HC.out.mono ?_
    rintro _ w3 ⟨y, rfl, hyc, hW, hb⟩
    obtain ⟨⟨yp, yc, yl⟩, ⟨yq, yd, ym⟩, ⟨yr, ye, yn⟩⟩ := y
    have hyc' : yl = pg ∧ ym = us ∧ yn.map (·.l) = rs.map (·.l) := by
      rw [← HS.out] at hyc
      simpa [Ds.c] using hyc
    obtain ⟨rfl, rfl, hmap⟩ := hyc'
    have hbW := hb2.trans (hb.mono (hbn ▸ hb2.size))
    have hR3 := hR2.next hb
    have hal := (Below.refl w3.heap.size w3).alloc (Nat.le_refl _) (.cells #[.slice yp yl.length yc, .slice yq ym.length yd, .slice yr yn.length ye] 26)
    have hB := Blk.mk2 w3 #[.slice yp yl.length yc, .slice yq ym.length yd, .slice yr yn.length ye] 26
    have hW4 := (hW.mono (by rw [← hbn]; exact hb2.size : S ≤ w2.heap.size)).below hal
    have hR4 := hR3.next hal
    have hb4 := hbW.trans (hal.mono (hbn ▸ hbW.size))
    have hSO : S + 1 < w3.heap.size := hR3.lt
    clear A0 A1 A2 HC hb hbW hR3 hal hW hR2 hb2 hyc hA2
    have hlen : yn.length = rs.length := by have := congrArg List.length hmap; simpa using this
    have hsr : s.roots.length = rs.length := by rw [← HS.out]; simp [Ds.c]
    have hqy : q < yn.length := by omega
    have hrow : (yn.getD q default).l = s.roots.getD q [] := by
      rw [← HS.out]
      show _ = (rs.map (·.l)).getD q []
      rw [← hmap]
      simp [hqy]
    have hrowm : yn.getD q default ∈ yn := by simp [hqy]
    have HM := Lib.hid hmap; have HROW := Lib.hid hrow; have HLEN := Lib.hid hlen; have H16 := Lib.hid h16; have HRO := Lib.hid hro
    clear hmap hlen hsr h16 hro hrow hok hth hq
    have hynl : yn.length ≤ 40 := by have := HLEN.out; omega
    obtain ⟨b5, o5, hp5, hb5, hc5, hrd5⟩ := hW4.ok.roots.at_ hqy
    have hxr : yn[q]? = some (yn.getD q default) := by simp [hqy]
    dsimp only at hp5 hc5 hrd5
    obtain ⟨g5, hg5⟩ := own_ptr (show World.ownsRow _ _ _ _ (.slice yr yn.length ye) yn.length _ from hW4.rt) (by omega)
    rw [hp5] at hg5
    simp only [Option.some.injEq, Addr.mk.injEq, and_true] at hg5
    obtain ⟨rfl, rfl⟩ := hg5
    subst hp5
    rw [Nat.zero_add] at hc5
    generalize hrw : yn.getD q default = row at *
    obtain ⟨rp, rc, rl⟩ := row
    dsimp only [Sv.val] at hc5 hrd5
    have hrl16 : rl.length = 16 := by have h1 := HROW.out; have h2 := H16.out; dsimp only at h1; rw [h1]; exact h2
    have HX := Lib.hid hxr; have HRL := Lib.hid hrl16; have HRW := Lib.hid hrw; clear hxr hrl16 hrw
    have hl16 : rl.length ≤ 16 := by have := HRL.out; omega
    go_wp2_with fail
    clear hc5
    generalize w3.alloc (.cells #[.slice yp yl.length yc, .slice yq ym.length yd, .slice (some ⟨b5, 0, none⟩) yn.length ye] 26) = w4 at *
    generalize w3.heap.size = OB at *
    go_loopw [26] (fun t wr => ∃ (k : Nat) (P : List Pg) (U : List Int), k ≤ rl.length ∧ t = .int .i64 k ∧ Below S W wr ∧ Blk wr (S + 1) #[.slice none 0 0, .slice none 0 0, .slice none 0 0] 26 ∧ Blk wr OB #[.slice yp P.length yc, .slice yq U.length yd, .slice (some ⟨b5, 0, none⟩) yn.length ye] 26 ∧ Ow wr S ⟨⟨yp, yc, P⟩, ⟨yq, yd, U⟩, ⟨some ⟨b5, 0, none⟩, ye, yn⟩⟩ ∧ LoB U k ∧ Hid ((P, U) = (rl.take k).foldl dropStep (yl, ym))) (fun t _ => rl.length - (intOf t).toNat)
    case atStart => exact ⟨0, yl, ym, Nat.zero_le _, rfl, hb4, hR4, hB, hW4, HLO.out, by simp [Hid]⟩
    clear hb4 hR4 hB hW4 HLO hrd5 hb5
    case round =>
      obtain ⟨k, P, U, hk, rfl, hbS, hR, hB, hW, hlo, hfold⟩ := hrel
      have hlens := drops_len (rl.take k) (yl, ym)
      rw [← hfold.out] at hlens
      obtain ⟨hPl, hUl⟩ := hlens
      dsimp only at hPl hUl
      have HPL := Lib.hid hPl; have HUL2 := Lib.hid hUl; clear hPl hUl
      by_cases hlt : k < rl.length
      · obtain ⟨g6, hp6, hc6, hf6⟩ := Sl.int_own (hW.each ⟨rp, rc, rl⟩ (List.mem_of_getElem? HX.out)).1 (i := k) hlt
        dsimp only at hp6 hc6
        have hx : rl[k]? = some (rl.getD k 0) := by simp [hlt]
        have hpr := HRO.out.2 (rl.getD k 0) (by rw [← HROW.out]; exact List.mem_of_getElem? hx)
        have hsp : s.pages.length = yl.length := by rw [← HS.out]; rfl
        rw [hsp] at hpr
        clear hsp
        generalize rl.getD k 0 = p at *
        subst hp6
        have hst : (rl.take (k + 1)).foldl dropStep (yl, ym) = dropStep (P, U) p := by
          rw [take_snoc_ hx, List.foldl_append, ← hfold.out]; rfl
        have HST := Lib.hid hst; clear hst hx hf6
        by_cases h0 : 0 ≤ p
        · obtain ⟨n, rfl⟩ : ∃ n : Nat, p = n := ⟨p.toNat, by omega⟩
          have hnl : n < yl.length := by omega
          have hnP : n < P.length := by have := HPL.out; omega
          have hnU : n < U.length := by have := HUL2.out; have := HUL.out; omega
          obtain ⟨gU, rfl⟩ := own_ptr (show World.ownsRow _ _ _ _ (.slice yq U.length yd) U.length _ from hW.us) (by omega)
          obtain ⟨gP, rfl⟩ := own_ptr (show World.ownsRow _ _ _ _ (.slice yp P.length yc) P.length _ from hW.pg) (by omega)
          have B1 : wr.cell? ⟨OB, 1, none⟩ = some (.slice (some ⟨gU, 0, none⟩) U.length yd) := hB.cell 1
          have cU : wr.cell? ⟨gU, n, none⟩ = some (.int .i64 (U.getD n 0)) := own_cell hW.us hnU
          have fU : wr.frozen? ⟨gU, n, none⟩ = false := hW.us.frozenAt n
          have hbd := hlo n
          have hUlen : U.length ≤ 400 := by have := HUL2.out; have := HUL.out; omega
          have hPlen : P.length ≤ 400 := by have := HPL.out; omega
          have hW2 := hW.setUse n (U.getD n 0 - 1)
          have hB2 := hB.kept hW.us (by decide) (grown_set wr gU n (.int .i64 (U.getD n 0 - 1)))
          have hR2 := hR.kept hW.us (by decide) (grown_set wr gU n (.int .i64 (U.getD n 0 - 1)))
          have hb2 := hbS.setCell (p := ⟨gU, n, none⟩) (hW.us.lt gU rfl).1 (.int .i64 (U.getD n 0 - 1))
          have hlo2 := hlo.step n
          have hs2 := HST.out
          unfold dropStep at hs2
          rw [if_pos h0, Int.toNat_natCast] at hs2
          dsimp only at hs2
          generalize hu : U.getD n 0 = u at *
          have B1' : (wr.setCell ⟨gU, n, none⟩ (.int .i64 (u - 1))).cell? ⟨OB, 1, none⟩ = some (.slice (some ⟨gU, 0, none⟩) U.length yd) := hB2.cell 1
          have B0' : (wr.setCell ⟨gU, n, none⟩ (.int .i64 (u - 1))).cell? ⟨OB, 0, none⟩ = some (.slice (some ⟨gP, 0, none⟩) P.length yc) := hB2.cell 0
          have cU' : (wr.setCell ⟨gU, n, none⟩ (.int .i64 (u - 1))).cell? ⟨gU, n, none⟩ = some (.int .i64 (u - 1)) := by
            have := own_cell hW2.us (i := n) (by simpa using hnU)
            simpa [hnU] using this
          have hlen2 : (U.set n (u - 1)).length = U.length := List.length_set
          clear hlo HST hB hR hu
          by_cases h1 : u - 1 = 0
          · rw [if_pos h1] at hs2
            have hW3 := hW2.setPage n Pg.zero
            have hB3 := hB2.kept hW2.pg (by decide) (grown_setPg _ gP n Pg.zero)
            have hR3 := hR2.kept hW2.pg (by decide) (grown_setPg _ gP n Pg.zero)
            have hb3 := hb2.grown (grown_setPg _ gP n Pg.zero) (hbn ▸ hb2.size) fun k hk => (hW2.pg.lt k hk).1
            obtain ⟨b8, o8, hp8, hb8, hc8⟩ := hW2.ok.pages.at_ (fun _ => rfl) (by omega) hnP default
            dsimp only at hp8
            simp only [Option.some.injEq, Addr.mk.injEq, and_true] at hp8
            obtain ⟨rfl, rfl⟩ := hp8
            generalize P.getD n default = pp8 at *
            have c0 := hc8 0 _ rfl; have c1 := hc8 1 _ rfl; have c2 := hc8 2 _ rfl; have c3 := hc8 3 _ rfl
            rw [Nat.zero_add] at c0 c1 c2 c3
            rw [Nat.add_zero] at c0
            have g0 := hW2.pg.frozenAt (n * 4); have g1 := hW2.pg.frozenAt (n * 4 + 1); have g2 := hW2.pg.frozenAt (n * 4 + 2); have g3 := hW2.pg.frozenAt (n * 4 + 3)
            have k1 : ((u - 1) == 0) = true := by simpa using h1
            have HS2 := Lib.hid hs2; have HW3 := Lib.hid hW3; have HL2 := Lib.hid hlen2
            clear hc8 hs2 h1 hW3 hW2 hB2 hR2 hW hlen2
            have HP2 : Hid ((P.set n Pg.zero).length = P.length) := List.length_set
            have HB3 := Lib.hid hB3; have HR3 := Lib.hid hR3; have HBS := Lib.hid hb3; clear hB3 hR3 hb3
            go_wp2_with fail
            go_roundw
            case rel =>
              refine ⟨k + 1, P.set n Pg.zero, U.set n (u - 1), by omega, by go_num, HBS.out, HR3.out, ?_, HW3.out, hlo2, HS2.out.symm⟩
              show Blk _ OB #[.slice (some ⟨gP, 0, none⟩) (P.set n Pg.zero).length yc, .slice (some ⟨gU, 0, none⟩) (U.set n (u - 1)).length yd, _] _
              rw [HL2.out, HP2.out]
              exact HB3.out
            case measure => simp [intOf]; omega
          · rw [if_neg h1] at hs2
            have k1 : ((u - 1) == 0) = false := by simpa using h1
            have HS2 := Lib.hid hs2; have HL2 := Lib.hid hlen2
            clear hs2 h1 hlen2
            go_wp2_with fail
            go_roundw
            case rel =>
              refine ⟨k + 1, P, U.set n (u - 1), by omega, by go_num, hb2, hR2, ?_, hW2, hlo2, HS2.out.symm⟩
              show Blk _ OB #[.slice (some ⟨gP, 0, none⟩) P.length yc, .slice (some ⟨gU, 0, none⟩) (U.set n (u - 1)).length yd, _] _
              rw [HL2.out]
              exact hB2
            case measure => simp [intOf]; omega
        · have hz : p < 0 := by omega
          have hs2 := HST.out
          have hs3 : dropStep (P, U) p = (P, U) := by unfold dropStep; rw [if_neg h0]
          rw [hs3] at hs2
          have HS2 := Lib.hid hs2.symm; clear hs2 hs3 HST h0
          go_wp2_with fail
          go_roundw
          case rel => exact ⟨k + 1, P, U, by omega, by go_num, hbS, hR, hB, hW, hlo.mono (by omega), HS2⟩
          case measure => simp [intOf]; omega
      · obtain rfl : k = rl.length := by omega
        have hf := hfold.out
        rw [List.take_length] at hf
        have HF := Lib.hid hf; clear hf hfold
        have hrt := hW.rt
        have B2 : wr.cell? ⟨OB, 2, none⟩ = some (.slice (some ⟨b5, 0, none⟩) yn.length ye) := hB.cell 2
        have cR : ∃ v, wr.cell? ⟨b5, q, none⟩ = some v := by
          obtain ⟨b9, o9, hp9, hb9, hc9, -⟩ := hW.ok.roots.at_ hqy
          simp only [Option.some.injEq, Addr.mk.injEq, and_true] at hp9
          obtain ⟨rfl, rfl⟩ := hp9
          rw [Nat.zero_add] at hc9
          exact ⟨_, hc9⟩
        obtain ⟨vR, cR⟩ := cR
        have fR : wr.frozen? ⟨b5, q, none⟩ = false := hrt.frozenAt q
        have hW2 := hW.setRoot q Sv.none (World.ownsRow_nil _ _ _ _) (.inl rfl)
        have hB2 := hB.kept hrt (by decide) (grown_set wr b5 q (.slice none 0 0))
        have hR2 := hR.kept hrt (by decide) (grown_set wr b5 q (.slice none 0 0))
        have hb2 := hbS.setCell (p := ⟨b5, q, none⟩) (hrt.lt b5 rfl).1 (.slice none 0 0)
        clear hW hB hR hbS hrt
        have q0 : (wr.setCell ⟨b5, q, none⟩ (.slice none 0 0)).cell? ⟨OB, 0, none⟩ = some (.slice yp P.length yc) := hB2.cell 0
        have q1 : (wr.setCell ⟨b5, q, none⟩ (.slice none 0 0)).cell? ⟨OB, 1, none⟩ = some (.slice yq U.length yd) := hB2.cell 1
        have q2 : (wr.setCell ⟨b5, q, none⟩ (.slice none 0 0)).cell? ⟨OB, 2, none⟩ = some (.slice (some ⟨b5, 0, none⟩) yn.length ye) := hB2.cell 2
        have z0 : (wr.setCell ⟨b5, q, none⟩ (.slice none 0 0)).cell? ⟨S + 1, 0, none⟩ = some (.slice none 0 0) := hR2.cell 0
        have z1 : (wr.setCell ⟨b5, q, none⟩ (.slice none 0 0)).cell? ⟨S + 1, 1, none⟩ = some (.slice none 0 0) := hR2.cell 1
        have z2 : (wr.setCell ⟨b5, q, none⟩ (.slice none 0 0)).cell? ⟨S + 1, 2, none⟩ = some (.slice none 0 0) := hR2.cell 2
        have f0 := hR2.frozen 0; have f1 := hR2.frozen 1; have f2 := hR2.frozen 2
        go_wp2_with fail
        clear z0 z1 z2 f0 f1 f2 q0 q1 q2 B2 cR fR
        dsimp only [Sv.val, List.length_nil] at hW2
        generalize wr.setCell ⟨b5, q, none⟩ (.slice none 0 0) = w6 at *
        have hZ1 := hR2.set 0 (.slice yp P.length yc)
        have hZ2 := hZ1.set 1 (.slice yq U.length yd)
        have hZ3 := hZ2.set 2 (.slice (some ⟨b5, 0, none⟩) yn.length ye)
        have hW3 := hW2.other hR2 (by decide) (by decide) (by decide) (grown_set w6 (S + 1) 0 (.slice yp P.length yc))
        have hW4 := hW3.other hZ1 (by decide) (by decide) (by decide) (grown_set _ (S + 1) 1 (.slice yq U.length yd))
        have hW5 := hW4.other hZ2 (by decide) (by decide) (by decide) (grown_set _ (S + 1) 2 (.slice (some ⟨b5, 0, none⟩) yn.length ye))
        have hb3 := ((hb2.setCell (p := ⟨S + 1, 0, none⟩) (by show S ≤ S + 1; omega) (.slice yp P.length yc)).setCell (p := ⟨S + 1, 1, none⟩) (by show S ≤ S + 1; omega) (.slice yq U.length yd)).setCell (p := ⟨S + 1, 2, none⟩) (by show S ≤ S + 1; omega) (.slice (some ⟨b5, 0, none⟩) yn.length ye)
        generalize ((w6.setCell ⟨S + 1, 0, none⟩ (.slice yp P.length yc)).setCell ⟨S + 1, 1, none⟩ (.slice yq U.length yd)).setCell ⟨S + 1, 2, none⟩ (.slice (some ⟨b5, 0, none⟩) yn.length ye) = wq at *
        have D0 : wq.cell? ⟨S + 1, 0, none⟩ = some (.slice yp P.length yc) := hZ3.cell 0
        have D1 : wq.cell? ⟨S + 1, 1, none⟩ = some (.slice yq U.length yd) := hZ3.cell 1
        have D2 : wq.cell? ⟨S + 1, 2, none⟩ = some (.slice (some ⟨b5, 0, none⟩) yn.length ye) := hZ3.cell 2
        have hset : (yn.set q Sv.none).length = yn.length := List.length_set
        refine bodyPost_ret (v := .tuple #[Ds.val ⟨⟨yp, yc, P⟩, ⟨yq, yd, U⟩, ⟨some ⟨b5, 0, none⟩, ye, yn.set q Sv.none⟩⟩, .int .i64 0]) (by simp [results, Try.results11, go_sem, D0, D1, D2, Ds.val, Sv.val]) rfl ⟨_, rfl, hW5.ok, hb3, fun _ => ?_, fun h => absurd rfl h⟩
        rw [Int.toNat_natCast]
        unfold dropC
        have hsp : s.pages = yl := by rw [← HS.out]; rfl
        have hsu : s.uses = ym := by rw [← HS.out]; rfl
        have hsr : s.roots = yn.map (·.l) := by rw [← HS.out, HM.out]; rfl
        rw [← HROW.out, hsp, hsu, hsr, ← HF.out]
        show DsC.mk P U ((yn.set q Sv.none).map (·.l)) = DsC.mk P U ((yn.map (·.l)).set q [])
        rw [List.map_set]
end Go.Proofs.Ytcnppcddpcpeoaa
