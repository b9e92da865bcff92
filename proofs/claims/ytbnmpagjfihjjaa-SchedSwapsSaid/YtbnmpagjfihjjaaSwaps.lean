/-
  SchedSwaps.
-/
import Derived.Test.YtbnmpagjfihjjaaBegun
import Derived.Test.YtbnmpagjfihjjaaEqF
import Derived.Test.YtbnmpagjfihjjaaLate
import Derived.Test.YtbnmpagjfihjjaaFast
import Derived.Deep.CutRange
namespace Go.Proofs.Ytbnmpagjfihjjaa
open Go.RowKit

theorem swap_split {l : List Int} {k : Nat} (hk : k + 1 < l.length) : ∃ u v : List Int, l = u ++ l.getD k 0 :: l.getD (k + 1) 0 :: v ∧ (l.set k (l.getD (k + 1) 0)).set (k + 1) (l.getD k 0) = u ++ l.getD (k + 1) 0 :: l.getD k 0 :: v := by
  have e : l = l.take k ++ l.getD k 0 :: l.getD (k + 1) 0 :: l.drop (k + 2) := by
    have h1 : l.getD k 0 = l[k] := by rw [List.getD_eq_getElem?_getD, List.getElem?_eq_getElem (by omega)]; rfl
    have h2 : l.getD (k + 1) 0 = l[k + 1] := by rw [List.getD_eq_getElem?_getD, List.getElem?_eq_getElem (by omega)]; rfl
    rw [h1, h2, ← List.drop_eq_getElem_cons (by omega), ← List.drop_eq_getElem_cons (by omega), List.take_append_drop]
  refine ⟨l.take k, l.drop (k + 2), e, ?_⟩
  generalize l.getD k 0 = x at *
  generalize l.getD (k + 1) 0 = y at *
  have hl : (l.take k).length = k := by rw [List.length_take]; omega
  generalize l.take k = u at *
  generalize l.drop (k + 2) = v at *
  rw [e, ← hl, List.set_append_right _ _ (Nat.le_refl _), Nat.sub_self, List.set_cons_zero, List.set_append_right _ _ (by omega), show u.length + 1 - u.length = 1 from by omega]
  rfl
theorem swaps_at {l : List Int} {D : List (List Bool)} (h : (normM l D).2 = 0) {k : Nat} (hk : k + 1 < l.length) (hne : l.getD k 0 ≠ l.getD (k + 1) 0) :
    aliM l ((l.set k (l.getD (k + 1) 0)).set (k + 1) (l.getD k 0)) D = (!dg D (l.getD k 0).toNat (l.getD (k + 1) 0).toNat, 0) := by
  obtain ⟨u, v, e1, e2⟩ := swap_split hk
  rw [e2]
  generalize l.getD k 0 = x at *
  generalize l.getD (k + 1) 0 = y at *
  subst e1
  exact swaps_two h hne
theorem flat_take (R : List (List Int)) {k : Nat} (hk : k < R.length) : (R.take (k + 1)).flatten = (R.take k).flatten ++ R.getD k [] := by
  rw [List.take_succ_eq_append_getElem hk, List.flatten_append, List.getD_eq_getElem?_getD, List.getElem?_eq_getElem hk]
  simp
theorem flat_le (R : List (List Int)) (k : Nat) : (R.take k).flatten.length ≤ R.flatten.length := by
  have : R.flatten = (R.take k).flatten ++ (R.drop k).flatten := by rw [← List.flatten_append, List.take_append_drop]
  rw [this, List.length_append]; omega

set_option maxHeartbeats 16000000 in
set_option maxRecDepth 100000 in
theorem swaps_any {w : World} {p : Option Addr} {cap : Nat} {l : List Int} {s : Sv (Sv Bool)} (i : Int) (hS : SlI w p cap l) (hR : RdBB w s) :
    Calls Try.prog 4 #[.slice p l.length cap, s.val, .int .i64 i] w fun e w' => e = .returned (.bool true) ∧ Below w.heap.size w w' := by
  obtain ⟨i0, hi, hz0, hz1, hz2⟩ := info_parts infoI
  have l1 := Sl.le hS
  have l2 := Sl.big hS
  have HS := Lib.hid hS
  have HR := Lib.hid hR
  have HB := Lib.hid begun_any
  clear hS hR
  obtain ⟨D, hD⟩ : ∃ D, D = s.l.map (·.l) := ⟨_, rfl⟩
  have HD := Lib.hid hD
  clear hD
  obtain ⟨sp, sc, sl⟩ := s
  dsimp only [Sv.val] at *
  go_enter Try.func4, Try.ntmps4
  go_wp2_with fail
  refine (HB.out _).mono ?_
  rintro _ w1 ⟨rfl, hb1⟩
  go_wp2_with fail
  have C := normal_any (HS.out.below hb1) (RdBB.st _ _ _ HR.out hb1)
  dsimp only at C
  rw [← HD.out] at C
  have hno := @norm_no l D
  have hfl := @swaps_flat l D
  have hat := @swaps_at l D
  have hok := @norm_ok l D
  generalize hnm : normM l D = na at *
  obtain ⟨A, e⟩ := na
  dsimp only at C hno hfl hat hok
  have HNO := Lib.hid hno; have HFL := Lib.hid hfl; have HAT := Lib.hid hat; have HOK := Lib.hid hok
  clear hno hfl hat hok hnm
  refine C.mono ?_
  clear C
  rintro _ w2 ⟨sA, rfl, hA, hAl, hb2⟩
  have hW2 := hb1.trans (hb2.mono hb1.size)
  have HA := Lib.hid hA
  have HAl := Lib.hid hAl
  clear hb1 hb2 hA hAl
  obtain ⟨ap, ac, al⟩ := sA
  dsimp only [Sv.val] at *
  by_cases he : e = 0
  · subst he
    obtain ⟨f1, f2⟩ := HFL.out rfl
    have hck := checkM_ok (HOK.out rfl)
    have hl200 := hck.1
    have hall := hck.2.2.2.2
    have hsq := hck.2.2.2.1
    have hAL : al.length = A.length := by rw [← HAl.out, List.length_map]
    have hbig := HA.out.le
    dsimp only at hbig
    have HF2 := Lib.hid f2
    have HALL := Lib.hid hall
    have HSQ := Lib.hid hsq
    have HF1 := Lib.hid f1
    clear HNO HFL hck hall hsq f1 f2
    go_wp2_with fail
    go_loopw [9, 10] (fun f9 s wr => ∃ (k : Nat) (fp : Option Addr) (fc : Nat) (F : List Int), k ≤ al.length ∧ s = .int .i64 k ∧ f9 = .slice fp F.length fc ∧ OwnI wr w2.heap.size fp fc F ∧ Below w2.heap.size w2 wr ∧ Hid (F = (A.take k).flatten)) (fun _ s _ => al.length - (intOf s).toNat)
    case atStart => exact ⟨0, none, 0, [], Nat.zero_le _, rfl, rfl, World.ownsRow_nil _ _ _ _, Below.refl _ _, rfl⟩
    case round =>
      obtain ⟨k, fp, fc, F, hk, rfl, rfl, hown, hbl, hF⟩ := hrel
      by_cases hlt : k < al.length
      · obtain ⟨b, off, hp, hb, hc, hrd⟩ := (RdR.st _ _ _ HA.out hbl).at_ hlt
        dsimp only at hp hc hrd
        subst hp
        have hft : (A.take (k + 1)).flatten = F ++ (al.getD k default).l := by
          rw [flat_take A (by omega), ← hF.out]
          congr 1
          rw [← HAl.out, List.getD_eq_getElem?_getD, List.getElem?_map, List.getD_eq_getElem?_getD, List.getElem?_eq_getElem hlt]
          rfl
        have hfl2 := flat_le A (k + 1)
        have hF1 := HF1.out
        rw [hft, List.length_append] at hfl2
        generalize al.getD k default = row at *
        obtain ⟨rp, rc, rl⟩ := row
        dsimp only [Sv.val] at hc hrd hft hfl2
        have HFT := Lib.hid hft
        have hFl : F.length + rl.length ≤ 200 := by omega
        have hbw : w2.heap.size ≤ wr.heap.size := hbl.size
        clear hft hF hfl2 hF1
        go_wp2_with (at_builtin; refine wpList_append_sl wr rfl _ _ 22 rfl w2.heap.size 3 i0 (.int .i64 0) 1 8 Try.underlying22 hi hz0 hz1 hz2 rfl (by decide) (.slice fp F.length fc) F.length (ints .i64 F) rfl hown rp rl.length rc (ints .i64 rl) rfl hrd (fun v hv => ints_one v hv) (by omega) (by omega) hbw ?_; intro p6 c6 w6 hown6 hb6)
        go_roundw
        case rel => exact ⟨k + 1, p6, c6, F ++ rl, by omega, by go_num, by rw [List.length_append], by unfold OwnI; rw [List.length_append, ints_append]; exact hown6, hbl.trans hb6, HFT.out.symm⟩
        case measure => simp [intOf]; omega
      · obtain rfl : k = al.length := by omega
        have hFF : F = A.flatten := by rw [hF.out, hAL, List.take_length]
        have hSF := Sl.of_own hown
        have hFlen : F.length = l.length := by rw [hFF]; exact HF1.out
        rw [← hFF] at HF2
        have HSF := Lib.hid hSF
        have HFlen := Lib.hid hFlen
        have hW3 := hW2.trans (hbl.mono hW2.size)
        clear hown hF hFF hSF hFlen hbl hW2 HF1
        go_wp2_with fail
        have C := alike_any (HS.out.below hW3) HSF.out (RdBB.st _ _ _ HR.out hW3)
        dsimp only at C
        rw [← HD.out, HF2.out] at C
        refine C.mono ?_
        clear C
        rintro _ w4 ⟨rfl, hb4⟩
        have hW4 := hW3.trans (hb4.mono hW3.size)
        clear hb4 hW3 HSF HF2
        rw [HFlen.out]
        dsimp only
        by_cases hneg : i < 0
        · have d1 : decide (i < 0) = true := decide_eq_true hneg
          clear HAT HOK HALL HSQ HA HAl
          go_wp2_with fail
          go_quiet (fail)
          go_wp2_with fail
          refine (HB.out _).mono ?_
          rintro _ w5 ⟨rfl, hb5⟩
          go_wp2_with fail
          go_ret
          refine ⟨rfl, ?_⟩
          have hW4' := below_drewN hW4 nq
          exact hW4'.trans (hb5.mono hW4'.size)
        · have d1 : decide (i < 0) = false := decide_eq_false hneg
          by_cases hge : (l.length : Int) - 1 ≤ i
          · have d2 : decide ((l.length : Int) - 1 ≤ i) = true := decide_eq_true hge
            clear HAT HOK HALL HSQ HA HAl
            go_wp2_with fail
            go_quiet (fail)
            go_wp2_with fail
            refine (HB.out _).mono ?_
            rintro _ w5 ⟨rfl, hb5⟩
            go_wp2_with fail
            go_ret
            refine ⟨rfl, ?_⟩
            have hW4' := below_drewN hW4 nq
            exact hW4'.trans (hb5.mono hW4'.size)
          · have d2 : decide ((l.length : Int) - 1 ≤ i) = false := decide_eq_false hge
            obtain ⟨k, rfl⟩ := Int.eq_ofNat_of_zero_le (show 0 ≤ i by omega)
            have hk1 : k + 1 < l.length := by omega
            have d3 : IntKind.i64.wrap ((l.length : Int) - 1) = (l.length : Int) - 1 := IntWalk.i64_in _ (by omega)
            have d4 : IntKind.i64.wrap ((k : Int) + 1) = (k : Int) + 1 := IntWalk.i64_in _ (by omega)
            have d5 : (k : Int) < (l.length : Int) := by omega
            have d6 : k < l.length := by omega
            have d7 : (k : Int) + 1 < (l.length : Int) := by omega
            have d8 : (0 : Int) ≤ (k : Int) + 1 := by omega
            have d9 : ((k : Int) + 1).toNat = k + 1 := by omega
            have d10 : (0 : Int) ≤ (k : Int) := by omega
            have hat := HAT.out trivial hk1
            obtain ⟨lb, lo, rfl, hlb, hcx⟩ := Sl.int_at (HS.out.below hW4) (i := k) (by omega)
            have hcy := slI_cells (HS.out.below hW4) (k + 1) hk1
            have hxm := HALL.out (l.getD k 0) (by simp [show k < l.length by omega])
            have hym := HALL.out (l.getD (k + 1) 0) (by simp [hk1])
            obtain ⟨x, hx⟩ : ∃ x, x = l.getD k 0 := ⟨_, rfl⟩
            obtain ⟨y, hy⟩ : ∃ y, y = l.getD (k + 1) 0 := ⟨_, rfl⟩
            rw [← hx, ← hy] at hat
            rw [← hx] at hxm hcx
            rw [← hy] at hym hcy
            have HAT2 := Lib.hid hat
            have HX := Lib.hid hx
            have HY := Lib.hid hy
            clear hat hx hy HAT HOK HALL HA HAl hneg hge
            by_cases hxy : x = y
            · subst hxy
              clear HAT2 HX HY HSQ
              go_wp2_with fail
              go_quiet (fail)
              go_wp2_with fail
              refine (HB.out _).mono ?_
              rintro _ w5 ⟨rfl, hb5⟩
              go_wp2_with fail
              go_ret
              refine ⟨rfl, ?_⟩
              have hW4' := below_drewN hW4 nq
              exact hW4'.trans (hb5.mono hW4'.size)
            · have hxe : (x == y) = false := by simpa using hxy
              have hal := HAT2.out hxy
              have HAL2 := Lib.hid hal
              clear HAT2 hal
              go_wp2_with fail
              go_quiet (fail)
              go_upto_region 16 with fail
              have hW5 := below_drewN hW4 nq
              clear hcx hcy hlb hW4
              generalize w4.drewN nq = w5 at *
              have hal5 := (Below.refl w5.heap.size w5).alloc (Nat.le_refl _) (.cells #[] 3)
              have hWa := hW5.trans (hal5.mono hW5.size)
              have hSa := HS.out.below hWa
              have hbw : w5.heap.size ≤ (w5.alloc (.cells #[] 3)).heap.size := hal5.size
              have hown0 : (w5.alloc (.cells #[] 3)).ownsRow w5.heap.size 3 1 (.slice (some ⟨w5.heap.size, 0, none⟩) 0 0) 0 [] := ⟨rfl, .inr ⟨w5.heap.size, 0, #[], rfl, Nat.le_refl _, World.alloc_heap_new w5 _, Nat.le_refl _, by unfold maxLen; omega, rfl, rfl⟩⟩
              clear hal5
              go_wp2_with (at_builtin; refine wpList_append_sl (w5.alloc (.cells #[] 3)) rfl _ _ 22 rfl w5.heap.size 3 i0 (.int .i64 0) 1 8 Try.underlying22 hi hz0 hz1 hz2 rfl (by decide) (.slice (some ⟨w5.heap.size, 0, none⟩) 0 0) 0 [] rfl hown0 (some ⟨lb, lo, none⟩) l.length cap (ints .i64 l) rfl hSa (fun v hv => ints_one v hv) (by omega) (by omega) hbw ?_; intro p6 c6 w6 hown6 hb6)
              rw [Nat.zero_add, List.nil_append] at hown6
              obtain ⟨g, rfl, hg⟩ : ∃ g, p6 = some ⟨g, 0, none⟩ ∧ w5.heap.size ≤ g := by
                rcases hown6.2 with ⟨-, e⟩ | ⟨g, cap', cur, hv, hb, -⟩
                · omega
                · simp only [Value.slice.injEq, true_and] at hv
                  exact ⟨g, hv.1, hb⟩
              have hW6' := hWa.trans (hb6.mono hW5.size)
              have hown6' := own_below hown6 (Below.refl w6.heap.size w6).drew
              have hW6'' := hW6'.drew
              obtain ⟨wd, hwd⟩ : ∃ wd, wd = w6.drew := ⟨_, rfl⟩
              rw [← hwd] at hown6' hW6''
              have HWD := Lib.hid hwd
              clear hown6 hW6' hb6 hwd
              have hown6 := hown6'
              have hW6 := hW6''
              clear hown6' hW6''
              have hcx := slI_cells (HS.out.below hW6) k d6
              have hcy := slI_cells (HS.out.below hW6) (k + 1) hk1
              rw [← HX.out] at hcx
              rw [← HY.out] at hcy
              have own7 := own_set hown6 k y
              have own8 := own_set own7 (k + 1) x
              have hc1 := own_cell hown6 (i := k) (by omega)
              have hf1 : wd.frozen? ⟨g, k, none⟩ = false := hown6.frozenAt k
              have hc2 := own_cell own7 (i := k + 1) (by omega)
              have hf2 : (wd.setCell ⟨g, k, none⟩ (.int .i64 y)).frozen? ⟨g, k + 1, none⟩ = false := own7.frozenAt (k + 1)
              have hWlt : w.heap.size ≤ g := Nat.le_trans hW5.size hg
              have hW8 : Below w.heap.size w ((wd.setCell ⟨g, k, none⟩ (.int .i64 y)).setCell ⟨g, k + 1, none⟩ (.int .i64 x)) := by
                refine (hW6.grown (grown_set wd g k _) hW6.size fun g' e => ?_).grown (grown_set _ g (k + 1) _) ?_ fun g' e => ?_
                · cases e; exact hWlt
                · exact Nat.le_trans hW6.size (grown_set wd g k _).size
                · cases e; exact hWlt
              have HOWN8 := Lib.hid own8
              have hCw : wd.cell? ⟨lb, lo + k, none⟩ = some (.int .i64 x) ∧ wd.cell? ⟨lb, lo + (k + 1), none⟩ = some (.int .i64 y) := ⟨hcx, hcy⟩
              haveI := cls_ne (C := fun w' => w'.cell? ⟨lb, lo + k, none⟩ = some (.int .i64 x) ∧ w'.cell? ⟨lb, lo + (k + 1), none⟩ = some (.int .i64 y)) hCw
              have y0 := fun p : Cls (fun w' => w'.cell? ⟨lb, lo + k, none⟩ = some (.int .i64 x) ∧ w'.cell? ⟨lb, lo + (k + 1), none⟩ = some (.int .i64 y)) => p.h.1
              have y1 := fun p : Cls (fun w' => w'.cell? ⟨lb, lo + k, none⟩ = some (.int .i64 x) ∧ w'.cell? ⟨lb, lo + (k + 1), none⟩ = some (.int .i64 y)) => p.h.2
              have HY0 := Lib.hid y0
              have HY1 := Lib.hid y1
              have HC1 := Lib.hid hc1; have HF1 := Lib.hid hf1; have HC2 := Lib.hid hc2; have HF2 := Lib.hid hf2
              have hcx6 := Lib.hid hCw
              clear y0 y1 hcx hcy hc1 hf1 hc2 hf2 own7 own8 hown6 hown0 hSa hWa hW5 hCw hW6
              refine wp_region_late (fun w' => ∃ p : Cls (fun w' => w'.cell? ⟨lb, lo + k, none⟩ = some (.int .i64 x) ∧ w'.cell? ⟨lb, lo + (k + 1), none⟩ = some (.int .i64 y)), w' = p.w) 15 (.free [0, 1, 2, 3, 4, 5, 6, 7, 8, 10, 11, 12] (.late [9, 13, 14] (.one [16] 17 (.last [])))) rfl (by kernel_rfl) (by kernel_rfl) (by kernel_rfl) (by rw [HWD.out] at hcx6; exact cls_mk hcx6.out) ?_
              change wpLate _ _ _ _ _ _ _ w6.drew
              rw [← HWD.out]
              refine wpLate_free fun K hK => ?_
              have HK := Lib.hid hK; clear hK
              simp only [pick, List.getD_cons_succ, List.getD_cons_zero]
              iterate 12 (go_big_quiet_step (fail))
              refine wpQuiet_nil ?_
              refine HK.out _ ?_
              clear HK K
              refine wpLate_late fun K hK => ?_
              have HK := Lib.hid hK; clear hK
              simp only [pick, List.getD_cons_succ, List.getD_cons_zero]
              have y0 := HY0.out
              have y1 := HY1.out
              iterate 3 (go_big_quiet_step (fail))
              clear y0 y1
              refine wpQuiet_nil ?_
              have hc1 := HC1.out
              have hf1 := HF1.out
              go_wp2_with fail
              refine HK.out _ _ ?_
              clear HK K
              refine wpPlan_one fun K hK => ?_
              have HK := Lib.hid hK; clear hK
              simp only [pick, List.getD_cons_succ, List.getD_cons_zero]
              iterate 1 (go_big_quiet_step (fail))
              refine wpQuiet_nil ?_
              have hc2 := HC2.out
              have hf2 := HF2.out
              clear hc1 hf1
              generalize wd.setCell ⟨g, k, none⟩ (.int .i64 y) = we at *
              go_wp2_with fail
              refine ⟨trivial, HK.out _ _ ?_⟩
              clear HK K
              refine wpPlan_last ?_
              simp only [pick]
              refine wpQuiet_nil ?_
              refine NoPanic.normal ?_
              generalize we.setCell ⟨g, k + 1, none⟩ (.int .i64 x) = w8 at *
              have hM8 : SlI w8 (some ⟨g, 0, none⟩) c6 ((l.set k y).set (k + 1) x) := by
                have := Sl.of_own HOWN8.out
                unfold SlI
                rw [List.length_set, List.length_set]
                exact this
              have C := alike_any (HS.out.below hW8) hM8 (RdBB.st _ _ _ HR.out hW8)
              dsimp only at C
              rw [← HD.out, HAL2.out, List.length_set, List.length_set] at C
              have HC := Lib.hid C
              clear C hM8 HOWN8 HC1 HC2 HF1 HF2 hc2 hf2 HY0 HY1 hcx6 HWD
              go_wp2_with fail
              refine HC.out.mono ?_
              rintro _ w9 ⟨rfl, hb9⟩
              have hW9 := hW8.trans (hb9.mono hW8.size)
              clear HC hb9 hW8
              have hcx := slI_cells (HS.out.below hW9) k d6
              have hcy := slI_cells (HS.out.below hW9) (k + 1) hk1
              rw [← HX.out] at hcx
              rw [← HY.out] at hcy
              have hDl : D.length = sl.length := by rw [HD.out, List.length_map]
              obtain ⟨a, rfl⟩ := Int.eq_ofNat_of_zero_le hxm.1
              obtain ⟨b, rfl⟩ := Int.eq_ofNat_of_zero_le hym.1
              obtain ⟨db, dof, hp, hdb, hcd, hrd⟩ := (RdBB.st _ _ _ HR.out hW9).at_ (i := a) (show a < sl.length by omega)
              dsimp only at hp hcd hrd
              subst hp
              have hdg : dg D a b = (sl.getD a default).l.getD b false := by unfold dg; rw [HD.out, map_getD]
              have hrl : (sl.getD a default).l.length = sl.length := by
                have := HSQ.out a (by omega)
                rw [HD.out, map_getD] at this
                rw [this, List.length_map]
              rw [Int.toNat_natCast, Int.toNat_natCast, hdg]
              generalize sl.getD a default = row at *
              obtain ⟨rp, rc, rl⟩ := row
              dsimp only [Sv.val] at hcd hdg hrl
              obtain ⟨eb, eo, hp2, heb, hce⟩ := hrd.at_ (i := b) (show b < rl.length by omega)
              dsimp only at hp2 hce
              subst hp2
              have hab : (a : Int) < (sl.length : Int) := by omega
              have hbb : (b : Int) < (rl.length : Int) := by omega
              have haN : a < sl.length := by omega
              have hbN : b < rl.length := by omega
              have t0 := cell_regrown hcx; have t1 := cell_regrown hcy; have t2 := cell_regrown hcd; have t3 := cell_regrown hce
              have hbg := fun d os => Calls.regrown_of (w := w9) (d := d) (os := os) (begun_any _)
              have HBG := Lib.hid hbg
              clear hbg hcx hcy hcd hce hrd hdg hrl hDl hxm hym HSQ HAL2 HX HY HB hxy hxe
              generalize rl.getD b false = v at *
              go_wp2_with fail
              refine quiet_below rfl (by kernel_rfl) (by kernel_rfl) ?_
              repeat (go_big_quiet_step (with_reducible exact HBG.out _ _))
              refine wpQuiet_nil ?_
              intro w10 hb10
              clear t0 t1 t2 t3 HBG
              go_wp2_with fail
              go_ret
              exact ⟨rfl, hW9.trans (hb10.mono hW9.size)⟩
  · have hez : ¬ e = (0 : Int) := he
    have hnil := HNO.out he
    have hAl2 := HAl.out
    rw [hnil] at hAl2
    have : al = [] := List.map_eq_nil_iff.1 hAl2
    subst this
    clear HNO HFL HAT HOK he hAl2 HAl
    go_wp2_with fail
    refine (HB.out _).mono ?_
    rintro _ w3 ⟨rfl, hb3⟩
    go_wp2_with fail
    go_ret
    exact ⟨rfl, hW2.trans (hb3.mono hW2.size)⟩
end Go.Proofs.Ytbnmpagjfihjjaa
