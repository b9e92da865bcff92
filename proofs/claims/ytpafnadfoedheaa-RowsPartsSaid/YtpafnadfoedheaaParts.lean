/-
  The walk of RowsParts.
-/
import Derived.Test.YtpafnadfoedheaaBegun
import Derived.Test.YtpafnadfoedheaaPartsL
import Derived.Test.YtpafnadfoedheaaEvOpen
namespace Go.Proofs.Ytpafnadfoedheaa
open Go.RowKit

theorem wf64_bounds {x : Int} (h : wf64 x) : x ≤ 9223372036854775807 ∧ -9223372036854775808 ≤ x := by
  unfold wf64 Lit.wf at h
  rw [Bool.and_eq_true, decide_eq_true_eq, decide_eq_true_eq] at h
  exact ⟨h.2, h.1⟩

set_option maxHeartbeats 16000000 in
set_option maxRecDepth 100000 in
theorem partsLaw_any (p : Option Addr) (c : Nat) (l : List Ev) (at' : Int) (w : World) (hS : Sl w 12 p l.length c (evs l)) (hwf : ∀ e ∈ l, e.Wf) (hat : wf64 at') :
    Calls Try.prog 5 #[.slice p l.length c, .int .i64 at'] w fun e w' => e = .returned (.bool true) ∧ Below w.heap.size w w' := by
  have hwfs : ∀ e ∈ l, e.s ≤ 9223372036854775807 ∧ -9223372036854775808 ≤ e.s := fun e he => wf64_bounds (hwf e he).s
  have hbet := fun k hk => bet_sum (l := l) hwfs (wf64_bounds hat).1 k hk
  have C1 := fun W (hW : Below w.heap.size w W) => count_any (hS.below hW)
  have C2 := fun W (hW : Below w.heap.size w W) => threads_any 8 (hS.below hW)
  have C3 := fun W (hW : Below w.heap.size w W) => between_any (-9223372036854775808) at' (hS.below hW)
  have C4 := fun W (hW : Below w.heap.size w W) => between_any at' 9223372036854775807 (hS.below hW)
  have D1 := Lib.hid C1; have D2 := Lib.hid C2; have D3 := Lib.hid C3; have D4 := Lib.hid C4; have HB := Lib.hid hbet; have HS := Lib.hid hS
  have l1 := hS.big
  have l2 := hS.le
  clear C1 C2 C3 C4 hwf hwfs hbet hS hat
  by_cases hb : 200 < l.length
  · have e1 : countM l = ([], 2) := by unfold countM; rw [if_pos hb]
    have e2 : threadsM l 8 = ([], 2) := by unfold threadsM; rw [if_pos hb]
    have e3 : ∀ pr, placesM pr l = ([], 2) := fun pr => by unfold placesM; rw [if_pos hb]
    rw [e1] at D1
    rw [e2] at D2
    rw [e3] at D3 D4
    dsimp only at D1 D2 D3 D4
    clear e1 e2 e3 hb HS HB
    go_enter Try.func5, Try.ntmps5
    go_wp2_with fail
    refine (begun_any w).mono ?_
    rintro _ w1 ⟨rfl, hb1⟩
    go_wp2_with fail
    refine (D1.out _ hb1).mono ?_
    rintro _ w2 ⟨q2, c2, rfl, -, hb2⟩
    replace hb2 := hb1.trans (hb2.mono hb1.size)
    clear hb1
    go_wp2_with fail
    refine (D2.out _ hb2).mono ?_
    rintro _ w3 ⟨s3, rfl, -, -, hb3⟩
    obtain ⟨p3, c3, l3⟩ := s3
    dsimp only [Sv.val]
    replace hb3 := hb2.trans (hb3.mono hb2.size)
    clear hb2
    go_wp2_with fail
    refine (D3.out _ hb3).mono ?_
    rintro _ w4 ⟨q4, c4, rfl, -, hb4⟩
    replace hb4 := hb3.trans (hb4.mono hb3.size)
    clear hb3
    go_wp2_with fail
    refine (D4.out _ hb4).mono ?_
    rintro _ w5 ⟨q5, c5, rfl, -, hb5⟩
    replace hb5 := hb4.trans (hb5.mono hb4.size)
    clear hb4
    go_wp2_with fail
    refine (begun_any w5).mono ?_
    rintro _ w6 ⟨rfl, hb6⟩
    go_wp2
    go_ret
    exact ⟨rfl, hb5.trans (hb6.mono hb5.size)⟩
  · have e1 : countM l = (cntM l l.length, 0) := by unfold countM; rw [if_neg hb]
    have e2 : threadsM l 8 = ((List.range 8).map fun j => plcK (thr j) l l.length, 0) := by unfold threadsM; rw [if_neg hb, if_pos (by decide)]; rfl
    have e3 : ∀ pr, placesM pr l = (plcK pr l l.length, 0) := fun pr => by unfold placesM; rw [if_neg hb]
    rw [e1] at D1
    rw [e2] at D2
    rw [e3] at D3 D4
    dsimp only at D1 D2 D3 D4
    have hl : l.length ≤ 200 := by omega
    have hcl := cntM_len l l.length
    have hcs := cntM_sum l l.length
    have hcp := cntM_pos l l.length
    have hb' := HB.out l.length (Nat.le_refl _)
    rw [← plcK_cnt, ← plcK_cnt] at hb'
    have hp1 := plcK_len (betB (-9223372036854775808) at') l l.length
    have hp2 := plcK_len (betB at' 9223372036854775807) l l.length
    have hts := thr_sum l l.length
    have HTS := Lib.hid hts
    have HB2 := Lib.hid hb'
    clear e1 e2 e3 HB hb hts hb'
    generalize plcK (betB (-9223372036854775808) at') l l.length = la at *
    generalize plcK (betB at' 9223372036854775807) l l.length = lb at *
    generalize cntM l l.length = cm at *
    go_enter Try.func5, Try.ntmps5
    go_wp2_with fail
    refine (begun_any w).mono ?_
    rintro _ w1 ⟨rfl, hb1⟩
    go_wp2_with fail
    refine (D1.out _ hb1).mono ?_
    rintro _ w2 ⟨q2, c2, rfl, hC2, hb2⟩
    replace hb2 := hb1.trans (hb2.mono hb1.size)
    clear hb1
    go_wp2_with fail
    refine (D2.out _ hb2).mono ?_
    rintro _ w3 ⟨s3, rfl, hT3, hTl, hb3⟩
    obtain ⟨p3, c3, l3⟩ := s3
    have hl3 : l3.length = 8 := by have := congrArg List.length hTl; simpa using this
    have hTf : ∀ j, j < 8 → ((l3.getD j default).l.length : Int) = ((plcK (thr j) l l.length).length : Int) := fun j hj => by
      have := congrArg (·[j]?) hTl
      simp only [List.getElem?_map, List.getElem?_range hj, Option.map_some] at this
      rw [List.getElem?_eq_getElem (by omega)] at this
      rw [List.getD_eq_getElem?_getD, List.getElem?_eq_getElem (by omega)]
      simp only [Option.map_some, Option.some.injEq] at this
      simp only [Option.getD_some]
      rw [this]
    have HTF := Lib.hid hTf
    have HL3 := Lib.hid hl3
    dsimp only [Sv.val]
    rw [HL3.out]
    replace hC2 := hC2.below hb3
    replace hb3 := hb2.trans (hb3.mono hb2.size)
    clear hb2 hTl hTf hl3
    go_wp2_with fail
    refine (D3.out _ hb3).mono ?_
    rintro _ w4 ⟨q4, c4, rfl, -, hb4⟩
    replace hC2 := hC2.below hb4
    replace hT3 := RdR.st _ _ _ hT3 hb4
    replace hb4 := hb3.trans (hb4.mono hb3.size)
    clear hb3
    go_wp2_with fail
    refine (D4.out _ hb4).mono ?_
    rintro _ w5 ⟨q5, c5, rfl, -, hb5⟩
    replace hC2 := hC2.below hb5
    replace hT3 := RdR.st _ _ _ hT3 hb5
    replace hb5 := hb4.trans (hb5.mono hb4.size)
    clear hb4
    have HC2 := Lib.hid hC2
    have HT3 := Lib.hid hT3
    have HCL := Lib.hid hcl
    have HCS := Lib.hid hcs
    have hcb : ∀ j, j < 18 → 0 ≤ cm.getD j 0 ∧ cm.getD j 0 ≤ 200 := fun j hj => by
      have h1 : cm.getD j 0 ∈ cm := by
        rw [List.getD_eq_getElem?_getD, List.getElem?_eq_getElem (by omega)]
        exact List.getElem_mem _
      have := hcp _ h1
      omega
    have HCB := Lib.hid hcb
    clear hC2 hT3 hcl hcs hcp hcb D1 D2 D3 D4
    go_wp2_with fail
    go_loopw [13, 16] (fun m s wr => ∃ (k : Nat) (x : Int), k ≤ 18 ∧ s = .int .i64 k ∧ m = .int .i64 x ∧ wr = w5 ∧ 0 ≤ x ∧ x ≤ 200 * k ∧ Hid (x = accI (fun j => cm.getD j 0) k)) (fun _ s _ => 18 - (intOf s).toNat)
    case atStart => exact ⟨0, 0, by omega, rfl, rfl, rfl, by omega, by omega, rfl⟩
    case round =>
      obtain ⟨k, x, hk, rfl, rfl, hw, hx0, hx1, hx⟩ := hrel
      subst hw
      by_cases hlt : k < 18
      · obtain ⟨b, off, rfl, hbk, hc⟩ := Sl.int_at HC2.out (i := k) (by rw [HCL.out]; exact hlt)
        obtain ⟨y0, y1⟩ := HCB.out k hlt
        have hs : accI (fun j => cm.getD j 0) (k + 1) = accI (fun j => cm.getD j 0) k + cm.getD k 0 := rfl
        have HSS := Lib.hid hs
        clear hs
        generalize cm.getD k 0 = y at *
        go_wp2_with fail
        go_roundw
        case rel => exact ⟨k + 1, x + y, by omega, by go_num, rfl, by trivial, by omega, by omega, by show _ = _; rw [HSS.out, ← hx.out]⟩
        case measure => simp [intOf]; omega
      · obtain rfl : k = 18 := by omega
        have hxn : x = l.length := by
          have h1 := hx.out
          have h2 := accI_sum cm 18 (by rw [HCL.out]; exact Nat.le_refl _)
          rw [List.take_of_length_le (by rw [HCL.out]; exact Nat.le_refl _), HCS.out] at h2
          exact h1.trans h2
        subst hxn
        clear hx hx0 hx1
        go_wp2_with fail
        go_loopw [14, 17] (fun m s wr2 => ∃ (k : Nat) (x : Int), k ≤ 8 ∧ s = .int .i64 k ∧ m = .int .i64 x ∧ wr2 = wr ∧ 0 ≤ x ∧ x ≤ 200 * k ∧ Hid (x = accI (fun j => ((plcK (thr j) l l.length).length : Int)) k)) (fun _ s _ => 8 - (intOf s).toNat)
        case atStart => exact ⟨0, 0, by omega, rfl, rfl, rfl, by omega, by omega, rfl⟩
        case round =>
          obtain ⟨k, x, hk, rfl, rfl, hw, hx0, hx1, hx⟩ := hrel
          subst hw
          by_cases hlt : k < 8
          · obtain ⟨b, off, hp3, hbk, hc, hrd⟩ := HT3.out.at_ (i := k) (by show k < l3.length; rw [HL3.out]; exact hlt)
            dsimp only at hp3 hc hrd
            subst hp3
            have hln := HTF.out k hlt
            have hpk := plcK_len (thr k) l l.length
            have hs : accI (fun j => ((plcK (thr j) l l.length).length : Int)) (k + 1) = accI (fun j => ((plcK (thr j) l l.length).length : Int)) k + ((plcK (thr k) l l.length).length : Int) := rfl
            rw [← hln] at hs
            have HSS := Lib.hid hs
            have hy1 : (l3.getD k default).l.length ≤ 200 := by omega
            clear hs hln hpk hrd
            generalize l3.getD k default = y at *
            obtain ⟨yp, yc, yl⟩ := y
            dsimp only [Sv.val] at hc hy1 HSS
            generalize yl.length = yn at *
            go_wp2_with fail
            go_roundw
            case rel => exact ⟨k + 1, x + yn, by omega, by go_num, rfl, by trivial, by omega, by omega, by show _ = _; rw [HSS.out, ← hx.out]⟩
            case measure => simp [intOf]; omega
          · obtain rfl : k = 8 := by omega
            have hxn : x = cntB inT l l.length := hx.out.trans HTS.out
            have hcle := cntB_le inT l l.length
            clear hx hx0 hx1
            subst hxn
            generalize hco : cntB inT l l.length = co at *
            have HCO := Lib.hid hco
            clear hco
            go_wp2_with fail
            go_loopw [14, 15, 18] (fun m s' s wr2 => ∃ (k : Nat) (u v : Nat), k ≤ l.length ∧ s = .int .i64 k ∧ m = .int .i64 ((co : Int) - (u : Int)) ∧ s' = .int .i64 (v : Int) ∧ wr2 = wr ∧ u ≤ k ∧ v ≤ k ∧ Hid (u = cntB inT l k ∧ v = cntB lastP l k)) (fun _ _ s _ => l.length - (intOf s).toNat)
            case atStart => exact ⟨0, 0, 0, by omega, rfl, by go_num, rfl, rfl, by omega, by omega, ⟨rfl, rfl⟩⟩
            case round =>
              obtain ⟨k, u, v, hk, rfl, rfl, rfl, hw, hu, hv, hx⟩ := hrel
              subst hw
              by_cases hlt : k < l.length
              · obtain ⟨b, off, rfl⟩ := HS.out.ptr (by omega) (by decide)
                have E1 := (HS.out.ev_at hlt).below hb5 (HS.out.row.lt (by simp; omega))
                have hst1 : cntB inT l (k + 1) = cntB inT l k + if (decide (0 ≤ (l.getD k .z).t) && decide ((l.getD k .z).t < 8)) then 1 else 0 := rfl
                have hst2 : cntB lastP l (k + 1) = cntB lastP l k + if ((l.getD k .z).s == 9223372036854775807) then 1 else 0 := rfl
                generalize l.getD k .z = x at *
                have a1 := E1.h1
                have a2 := E1.h2
                clear E1
                obtain ⟨xk, xs, xt, xf, xa, xl, xA, xB, x1, x2, x3, x4⟩ := x
                dsimp only at a1 a2 hst1 hst2
                have HX1 := Lib.hid hst1
                have HX2 := Lib.hid hst2
                clear hst1 hst2
                obtain ⟨dv, hdv⟩ : ∃ dv, dv = (xs == 9223372036854775807) := ⟨_, rfl⟩
                rw [← hdv] at HX2
                by_cases hin : 0 ≤ xt ∧ xt < 8
                · have hd1 : 0 ≤ xt := hin.1
                  have hd2 : xt < 8 := hin.2
                  rw [decide_eq_true hd1, decide_eq_true hd2] at HX1
                  have e1 := HX1.out
                  rw [Bool.true_and, if_pos rfl, ← hx.out.1] at e1
                  have HE1 := Lib.hid e1
                  clear e1 HX1 hin
                  cases dv with
                  | true =>
                    have e2 := HX2.out
                    rw [if_pos rfl, ← hx.out.2] at e2
                    have HE2 := Lib.hid e2
                    have hdd : (xs == 9223372036854775807) = true := hdv.symm
                    clear e2 HX2 hdv hx
                    go_wp2_with fail
                    go_roundw
                    case rel => exact ⟨k + 1, u + 1, v + 1, by omega, by go_num, by go_num, by go_num, by trivial, by omega, by omega, ⟨HE1.out.symm, HE2.out.symm⟩⟩
                    case measure => simp [intOf]; omega
                  | false =>
                    have e2 := HX2.out
                    rw [if_neg (by simp), ← hx.out.2] at e2
                    have HE2 := Lib.hid e2
                    have hdd : (xs == 9223372036854775807) = false := hdv.symm
                    clear e2 HX2 hdv hx
                    go_wp2_with fail
                    go_roundw
                    case rel => exact ⟨k + 1, u + 1, v, by omega, by go_num, by go_num, by go_num, by trivial, by omega, by omega, ⟨HE1.out.symm, HE2.out.symm⟩⟩
                    case measure => simp [intOf]; omega
                · have hnb : (decide (0 ≤ xt) && decide (xt < 8)) = false := by
                    rw [Bool.and_eq_false_iff, decide_eq_false_iff_not, decide_eq_false_iff_not]
                    omega
                  rw [hnb] at HX1
                  have e1 := HX1.out
                  rw [if_neg (by simp), ← hx.out.1] at e1
                  have HE1 := Lib.hid e1
                  clear e1 HX1 hnb
                  by_cases hd1 : 0 ≤ xt
                  · have hd2 : ¬ xt < 8 := fun h => hin ⟨hd1, h⟩
                    clear hin
                    cases dv with
                    | true =>
                      have e2 := HX2.out
                      rw [if_pos rfl, ← hx.out.2] at e2
                      have HE2 := Lib.hid e2
                      have hdd : (xs == 9223372036854775807) = true := hdv.symm
                      clear e2 HX2 hdv hx
                      go_wp2_with fail
                      go_roundw
                      case rel => exact ⟨k + 1, u, v + 1, by omega, by go_num, by go_num, by go_num, by trivial, by omega, by omega, ⟨HE1.out.symm, HE2.out.symm⟩⟩
                      case measure => simp [intOf]; omega
                    | false =>
                      have e2 := HX2.out
                      rw [if_neg (by simp), ← hx.out.2] at e2
                      have HE2 := Lib.hid e2
                      have hdd : (xs == 9223372036854775807) = false := hdv.symm
                      clear e2 HX2 hdv hx
                      go_wp2_with fail
                      go_roundw
                      case rel => exact ⟨k + 1, u, v, by omega, by go_num, by go_num, by go_num, by trivial, by omega, by omega, ⟨HE1.out.symm, HE2.out.symm⟩⟩
                      case measure => simp [intOf]; omega
                  · clear hin
                    cases dv with
                    | true =>
                      have e2 := HX2.out
                      rw [if_pos rfl, ← hx.out.2] at e2
                      have HE2 := Lib.hid e2
                      have hdd : (xs == 9223372036854775807) = true := hdv.symm
                      clear e2 HX2 hdv hx
                      go_wp2_with fail
                      go_roundw
                      case rel => exact ⟨k + 1, u, v + 1, by omega, by go_num, by go_num, by go_num, by trivial, by omega, by omega, ⟨HE1.out.symm, HE2.out.symm⟩⟩
                      case measure => simp [intOf]; omega
                    | false =>
                      have e2 := HX2.out
                      rw [if_neg (by simp), ← hx.out.2] at e2
                      have HE2 := Lib.hid e2
                      have hdd : (xs == 9223372036854775807) = false := hdv.symm
                      clear e2 HX2 hdv hx
                      go_wp2_with fail
                      go_roundw
                      case rel => exact ⟨k + 1, u, v, by omega, by go_num, by go_num, by go_num, by trivial, by omega, by omega, ⟨HE1.out.symm, HE2.out.symm⟩⟩
                      case measure => simp [intOf]; omega
              · obtain rfl : k = l.length := by omega
                have hu0 : ((co : Int) - (u : Int)) = 0 := by have h1 := HCO.out; have h2 := hx.out.1; omega
                have hsum : ((la.length : Int) + (lb.length : Int) + (v : Int)) = (l.length : Int) := by have h1 := HB2.out; have h2 := hx.out.2; omega
                rw [hu0]
                have hsd : ((la.length : Int) + (lb.length : Int) + (v : Int) == (l.length : Int)) = true := by rw [beq_iff_eq]; exact hsum
                have HSM := Lib.hid hsum
                clear hx hu0 hsum
                go_wp2_with fail
                refine (begun_any wr).mono ?_
                rintro _ w6 ⟨rfl, hb6⟩
                go_wp2_with fail
                go_ret
                exact ⟨rfl, hb5.trans (hb6.mono hb5.size)⟩
end Go.Proofs.Ytpafnadfoedheaa
