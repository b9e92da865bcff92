/-
  SchedBack.
-/
import Derived.Test.YtbnmpagjfihjjaaBegun
import Derived.Test.YtbnmpagjfihjjaaBackL
import Derived.Test.YtbnmpagjfihjjaaDrEq
import Derived.Deep.CutRange
namespace Go.Proofs.Ytbnmpagjfihjjaa
open Go.RowKit

set_option maxHeartbeats 8000000 in
set_option maxRecDepth 100000 in
theorem back_any {w : World} {p q : Option Addr} {cap cap2 : Nat} {l : List Int} {r : List Dr} (hS : SlI w p cap l) (hR : Sl w 2 q r.length cap2 (drs r)) :
    Calls Try.prog 5 #[.slice p l.length cap, .slice q r.length cap2] w fun e w' => e = .returned (.bool true) ∧ Below w.heap.size w w' := by
  have l1 := hR.le
  have l2 := hR.big
  have HS := Lib.hid hS
  have HR := Lib.hid hR
  have HB := Lib.hid begun_any
  clear hS hR
  go_enter Try.func5, Try.ntmps5
  go_wp2_with fail
  refine (HB.out _).mono ?_
  rintro _ w1 ⟨rfl, hb1⟩
  go_wp2_with fail
  have C := pack_any (HS.out.below hb1)
  have hlist := @back_list l
  have HL := Lib.hid hlist
  clear hlist
  refine C.mono ?_
  clear C
  rintro _ w2 ⟨q2, c2, rfl, hP2, hb2⟩
  have hW2 := hb1.trans (hb2.mono hb1.size)
  clear hb1 hb2
  generalize hpk : packM l = pk at *
  obtain ⟨a, e⟩ := pk
  dsimp only at hP2 HL
  clear hpk
  go_upto_if 22 with fail
  go_cut [] from 14 to 35 (fun wc => Below w.heap.size w wc)
  case first =>
    by_cases he : e = 0
    · subst he
      have hu := HL.out rfl
      go_wp2_with fail
      have C := unpack_any hP2
      rw [hu] at C
      refine C.mono ?_
      clear C
      rintro _ w3 ⟨q3, c3, rfl, hU3, hb3⟩
      dsimp only at hU3
      have hW3 := hW2.trans (hb3.mono hW2.size)
      go_wp2_with fail
      have C := sameInts_any hU3 (HS.out.below hW3)
      rw [decide_eq_true (rfl : l = l)] at C
      refine C.mono ?_
      clear C
      rintro _ w4 ⟨rfl, hb4⟩
      go_wp2_with fail
      go_meet
      case rel => exact hW3.trans (hb4.mono hW3.size)
    · have hez : ¬ e = (0 : Int) := he
      clear he
      go_wp2_with fail
      go_meet
      case rel => exact hW2
  case rest =>
    clear hW2 hP2 HL
    have hWc := hcut
    clear hcut
    go_wp2_with fail
    have C := unpack_any (HR.out.below hWc)
    have hrun := @back_runs r
    have hnone := @unp_none r
    have HRN := Lib.hid hrun
    have HN := Lib.hid hnone
    clear hrun hnone
    refine C.mono ?_
    clear C
    rintro _ w3 ⟨q3, c3, rfl, hU3, hb3⟩
    have hW3 := hWc.trans (hb3.mono hWc.size)
    clear hb3 hWc
    generalize unpM r = um at *
    obtain ⟨m, f⟩ := um
    dsimp only at hU3 HRN HN
    by_cases hf : f = 0
    · subst hf
      have hpm := HRN.out rfl
      clear HRN HN
      go_wp2_with fail
      have C := pack_any hU3
      rw [hpm] at C
      refine C.mono ?_
      clear C
      rintro _ w4 ⟨q4, c4, rfl, hP4, hb4⟩
      dsimp only at hP4
      have hW4 := hW3.trans (hb4.mono hW3.size)
      have HP := Lib.hid hP4
      clear hb4 hW3 hU3 hpm hP4
      go_wp2_with fail
      go_loopw [13] (fun s wr => ∃ k : Nat, k ≤ r.length ∧ s = .int .i64 k ∧ Below w.heap.size w wr ∧ Below w4.heap.size w4 wr) (fun s _ => r.length - (intOf s).toNat)
      case atStart => exact ⟨0, Nat.zero_le _, rfl, hW4, Below.refl _ _⟩
      case round =>
        clear hW4
        obtain ⟨k, hk, rfl, hbl, hb4⟩ := hrel
        by_cases hlt : k < r.length
        · have hP := HP.out.below hb4
          have hQ := HR.out.below hbl
          obtain ⟨b, off, rfl⟩ := hP.ptr (by omega) (by decide)
          obtain ⟨b2, off2, rfl⟩ := hQ.ptr (by omega) (by decide)
          have E1 := hP.drs_at hlt
          have E2 := hQ.drs_at hlt
          generalize r.getD k .z = x at *
          have hq := fun W => run_eqIn_dr W x x
          rw [decide_eq_true (rfl : x = x)] at hq
          obtain ⟨xt, xm⟩ := x
          dsimp only [Dr.val] at hq
          obtain ⟨d0, d1⟩ := E1
          obtain ⟨f0, f1⟩ := E2
          dsimp only at d0 d1 f0 f1
          clear hP hQ
          go_wp2_with fail
          go_quiet (fail)
          go_wp2_with fail
          go_roundw
          case rel => exact ⟨k + 1, by omega, by go_num, by (repeat (first | exact hbl | refine below_drewN ?_ _ | refine Below.drew ?_)), by (repeat (first | exact hb4 | refine below_drewN ?_ _ | refine Below.drew ?_))⟩
          case measure => simp [intOf]; omega
        · obtain rfl : k = r.length := by omega
          go_wp2_with fail
          refine (HB.out _).mono ?_
          rintro _ w5 ⟨rfl, hb5⟩
          go_wp2_with fail
          go_ret
          exact ⟨rfl, hbl.trans (hb5.mono hbl.size)⟩
    · have hfz : ¬ f = (0 : Int) := hf
      have hm := HN.out hf
      subst hm
      clear hf HRN HN hU3
      go_wp2_with fail
      refine (HB.out _).mono ?_
      rintro _ w4 ⟨rfl, hb4⟩
      go_wp2_with fail
      go_ret
      exact ⟨rfl, hW3.trans (hb4.mono hW3.size)⟩
end Go.Proofs.Ytbnmpagjfihjjaa
