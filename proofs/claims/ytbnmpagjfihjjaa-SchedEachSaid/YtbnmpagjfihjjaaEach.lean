/-
  SchedEach.
-/
import Derived.Test.YtbnmpagjfihjjaaBegun
import Derived.Test.YtbnmpagjfihjjaaEachL
import Derived.Deep.CutRange
namespace Go.Proofs.Ytbnmpagjfihjjaa
open Go.RowKit

set_option maxHeartbeats 8000000 in
set_option maxRecDepth 100000 in
theorem each_any {w : World} {p q : Option Addr} {cap cap2 : Nat} {l v : List Int} (n : Int) (hS : SlI w p cap l) (hV : SlI w q cap2 v) :
    Calls Try.prog 3 #[.slice p l.length cap, .int .i64 n, .slice q v.length cap2] w fun e w' => e = .returned (.bool true) ∧ Below w.heap.size w w' := by
  have HS := Lib.hid hS
  have HV := Lib.hid hV
  have HB := Lib.hid begun_any
  clear hS hV
  go_enter Try.func3, Try.ntmps3
  go_wp2_with fail
  refine (HB.out _).mono ?_
  rintro _ w1 ⟨rfl, hb1⟩
  go_wp2_with fail
  have C := nth_any n (HS.out.below hb1)
  have hone := @each_one l n
  have HO := Lib.hid hone
  clear hone
  refine C.mono ?_
  clear C
  rintro _ w2 ⟨q2, c2, rfl, hA2, hb2⟩
  have hW2 := hb1.trans (hb2.mono hb1.size)
  clear hb1 hb2
  generalize nthM l n = na at *
  obtain ⟨a, e⟩ := na
  dsimp only at hA2 HO
  go_upto_if 29 with fail
  go_cut [] from 20 to 118 (fun wc => Below w.heap.size w wc)
  case first =>
    by_cases he : e = 0
    · subst he
      obtain ⟨o1, o2, c, o3, o4, o5, o6, o7⟩ := HO.out rfl
      clear HO
      have HA := Lib.hid hA2
      clear hA2
      go_wp2_with fail
      have C := rank_any (HS.out.below hW2) HA.out
      rw [o1] at C
      refine C.mono ?_
      clear C o1
      rintro _ w3 ⟨rfl, hb3⟩
      have hW3 := hW2.trans (hb3.mono hW2.size)
      have HA3 := Lib.hid (HA.out.below hb3)
      clear HA hb3 hW2
      have HO7 := Lib.hid o7
      have HO3 := Lib.hid o3
      clear o3 o7
      go_wp2_with fail
      have C := nth_any (n + 1) (HS.out.below hW3)
      refine C.mono ?_
      clear C
      rintro _ w4 ⟨q4, c4, rfl, hB4, hb4⟩
      have hW4 := hW3.trans (hb4.mono hW3.size)
      have HA4 := Lib.hid (HA3.out.below hb4)
      clear HA3 hb4 hW3
      have hm := HO7.out
      clear HO7
      generalize nthM l (n + 1) = nb at *
      obtain ⟨b, g⟩ := nb
      dsimp only at hB4
      have HB4 := Lib.hid hB4
      clear hB4
      have HM := Lib.hid hm
      clear hm
      go_wp2_with fail
      have C := countC_any (HS.out.below hW4)
      rw [HO3.out] at C
      refine C.mono ?_
      clear C
      rintro _ w5 ⟨rfl, hb5⟩
      have hW5 := hW4.trans (hb5.mono hW4.size)
      have HA5 := Lib.hid (HA4.out.below hb5)
      have HB5 := Lib.hid (HB4.out.below hb5)
      clear HA4 HB4 hb5 hW4 HO3
      rcases HM.out with ⟨hlt, b', hbe, hbl, i0, hi0, hag, hgt⟩ | ⟨hge, hbe⟩
      · simp only [Prod.mk.injEq] at hbe
        obtain ⟨rfl, rfl⟩ := hbe
        clear HM
        have hd1 : decide (n + 1 < c) = true := decide_eq_true hlt
        have HAG := Lib.hid hag
        clear hag
        go_wp2_with fail
        go_loopw [15] (fun s wr => ∃ i : Nat, i ≤ i0 ∧ s = .int .i64 i ∧ Below w.heap.size w wr ∧ Below w5.heap.size w5 wr) (fun s _ => i0 + 1 - (intOf s).toNat)
        case atStart => exact ⟨0, Nat.zero_le _, rfl, hW5, Below.refl _ _⟩
        case round =>
          clear hW5
          obtain ⟨i, hi, rfl, hbl2, hb5⟩ := hrel
          obtain ⟨ab, ao, rfl, hab, hca⟩ := Sl.int_at (HA5.out.below hb5) (i := i) (by omega)
          obtain ⟨bb, bo, rfl, hbb, hcb⟩ := Sl.int_at (HB5.out.below hb5) (i := i) (by omega)
          have hla : (i : Int) < (a.length : Int) := by omega
          have hld : decide ((i : Int) < (a.length : Int)) = true := decide_eq_true hla
          have hln : i < a.length := by omega
          have hlm : decide (i < a.length) = true := decide_eq_true hln
          by_cases hlt2 : i < i0
          · rw [← HAG.out i hlt2] at hcb
            generalize a.getD i 0 = x at *
            clear hgt hi0
            go_wp2_with fail
            go_quiet (fail)
            go_wp2_with fail
            go_roundw
            case rel => exact ⟨i + 1, by omega, by go_num, by (repeat (first | exact hbl2 | refine below_drewN ?_ _ | refine Below.drew ?_)), by (repeat (first | exact hb5 | refine below_drewN ?_ _ | refine Below.drew ?_))⟩
            case measure => simp [intOf]; omega
          · obtain rfl : i = i0 := by omega
            generalize a.getD i 0 = x at *
            generalize b.getD i 0 = y at *
            have hxy : (x == y) = false := by simp; omega
            have hxz : ¬ x = y := by omega
            have hgz : ¬ y < x := by omega
            have hgd : decide (y < x) = false := decide_eq_false hgz
            have hie : ((i : Int) == (a.length : Int)) = false := by simp; omega
            have hin : ¬ i = a.length := by omega
            have hiz : ¬ (i : Int) = (a.length : Int) := by omega
            go_wp2_with fail
            go_quiet (fail)
            go_wp2_with fail
            go_quiet (fail)
            go_wp2_with fail
            go_meet
            case rel => (repeat (first | exact hbl2 | refine below_drewN ?_ _ | refine Below.drew ?_))
      · simp only [Prod.mk.injEq] at hbe
        obtain ⟨rfl, rfl⟩ := hbe
        clear HM
        have hd1 : decide (n + 1 < c) = false := decide_eq_false (by omega)
        go_wp2_with fail
        go_loopw [15] (fun s wr => s = .int .i64 0 ∧ Hid (wr = w5)) (fun _ _ => 0)
        case atStart => exact ⟨rfl, rfl⟩
        case round =>
          obtain ⟨rfl, hw⟩ := hrel
          obtain rfl := hw.out
          go_wp2_with fail
          go_quiet (fail)
          go_wp2_with fail
          go_quiet (fail)
          go_wp2_with fail
          go_meet
          case rel => (repeat (first | exact hW5 | refine below_drewN ?_ _ | refine Below.drew ?_))
    · have hez : ¬ e = (0 : Int) := he
      clear he HO hA2
      go_wp2_with fail
      go_meet
      case rel => exact hW2
  case rest =>
    clear hW2 hA2 HO
    have hWc := hcut
    clear hcut
    go_wp2_with fail
    have C := rank_any (HS.out.below hWc) (HV.out.below hWc)
    have htwo := @each_two l v
    have hthree := @each_three l v
    refine C.mono ?_
    clear C
    rintro _ w3 ⟨rfl, hb3⟩
    have hW3 := hWc.trans (hb3.mono hWc.size)
    clear hb3 hWc
    generalize rankM l v = rk at *
    obtain ⟨k, f⟩ := rk
    dsimp only at htwo hthree ⊢
    by_cases hf : f = 0
    · subst hf
      have hn := hthree rfl
      have HN := Lib.hid hn
      clear hn htwo hthree
      go_wp2_with fail
      have C := nth_any k (HS.out.below hW3)
      rw [HN.out] at C
      refine C.mono ?_
      clear C
      rintro _ w4 ⟨q4, c4, rfl, hU4, hb4⟩
      dsimp only at hU4
      have hW4 := hW3.trans (hb4.mono hW3.size)
      have HU := Lib.hid hU4
      clear hb4 hW3 hU4
      go_wp2_with fail
      refine (HB.out _).mono ?_
      rintro _ w5 ⟨rfl, hb5⟩
      have hW5 := hW4.trans (hb5.mono hW4.size)
      have HU5 := Lib.hid (HU.out.below hb5)
      clear hW4 HU hb5
      go_wp2_with fail
      have C := sameInts_any HU5.out (HV.out.below hW5)
      rw [decide_eq_true (rfl : v = v)] at C
      refine C.mono ?_
      clear C
      rintro _ w6 ⟨rfl, hb6⟩
      go_wp2_with fail
      go_ret
      exact ⟨rfl, hW5.trans (hb6.mono hW5.size)⟩
    · have hfz : ¬ f = (0 : Int) := hf
      have hk := htwo hf
      subst hk
      clear hf htwo hthree
      go_wp2_with fail
      refine (HB.out _).mono ?_
      rintro _ w4 ⟨rfl, hb4⟩
      go_wp2_with fail
      go_ret
      exact ⟨rfl, hW3.trans (hb4.mono hW3.size)⟩
end Go.Proofs.Ytbnmpagjfihjjaa
