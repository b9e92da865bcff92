/-
  The walk of RowsMerged (genmerged.py).
-/
import Derived.Test.YtpafnadfoedheaaMergedL
import Derived.Test.YtpafnadfoedheaaSameE
import Derived.Deep.LoopGhost
namespace Go.Proofs.Ytpafnadfoedheaa
open Go.RowKit

set_option maxHeartbeats 16000000 in
set_option maxRecDepth 100000 in
theorem mergedLaw_any (p1 : Option Addr) (c1 : Nat) (l : List Ev) (p2 : Option Addr) (c2 : Nat) (m : List Ev) (w : World) (h1 : Sl w 12 p1 l.length c1 (evs l)) (h2 : Sl w 12 p2 m.length c2 (evs m)) (b1 : l.length ≤ 1048576) (b2 : m.length ≤ 1048576) :
    Calls Try.prog 3 #[.slice p1 l.length c1, .slice p2 m.length c2] w fun e w' => e = .returned (.bool true) ∧ Below w.heap.size w w' := by
  have hov : l.length + m.length < 4611686018427387904 := by omega
  by_cases hok : (mergeM l m).2 = 0
  · obtain ⟨ha1, ha2⟩ := mergeM_ok hok
    obtain ⟨sl, sm⟩ := mergeM_srt hok
    have C1 := fun W (hW : Below w.heap.size w W) => merge_any p1 c1 l p2 c2 m W (h1.below hW) (h2.below hW) hov
    rw [hok] at C1
    obtain ⟨a, ha⟩ : ∃ a, a = (mergeM l m).1 := ⟨_, rfl⟩
    rw [← ha] at C1 ha2
    have hsa : Srt Ev.s a := by rw [ha2]; exact ssort_srt _
    have hla : a.length ≤ 200 := by rw [ha2, ssort_length, List.length_append]; exact ha1
    obtain ⟨hn1, hn2⟩ := mergeM_nil hsa hla
    have C2 := fun W p c (h : Sl W 12 p a.length c (evs a)) => merge_any p c a none 0 [] W h (Sl.zero _ _) (by simp; omega)
    have C3 := fun W p c (h : Sl W 12 p a.length c (evs a)) => merge_any none 0 [] p c a W (Sl.zero _ _) h (by simp; omega)
    rw [hn1] at C2
    rw [hn2] at C3
    dsimp only [List.length_nil] at C2 C3
    have hA0 : Apa a l m 0 0 0 := ⟨by rw [List.drop_zero, List.drop_zero, List.drop_zero]; exact ha2, Nat.zero_le _, Nat.zero_le _⟩
    have D1 := Lib.hid C1; have D2 := Lib.hid C2; have D3 := Lib.hid C3; have H1 := Lib.hid h1; have H2 := Lib.hid h2; have HA0 := Lib.hid hA0
    have hst := fun n i k (h : Apa a l m n i k) hn => apa_step sl sm h hn
    have HST := Lib.hid hst
    have hsg := fun n (hn : n + 1 < a.length) => srt_get hsa hn
    have HSG := Lib.hid hsg
    have hend := fun i k (h : Apa a l m a.length i k) => apa_end h
    have HEND := Lib.hid hend
    have l1 := h1.le
    have l2 := h2.le
    have l3 := h1.big
    have l4 := h2.big
    clear C1 C2 C3 h1 h2 hA0 hn1 hn2 ha ha2 hok sl sm hst hsa hsg hend ha1
    go_enter Try.func3, Try.ntmps3
    go_wp2_with fail
    refine (begun_any w).mono ?_
    rintro _ w1 ⟨rfl, hb1⟩
    go_wp2_with fail
    refine (D1.out _ hb1).mono ?_
    rintro _ w2 ⟨pa, ca, rfl, hA, hb2⟩
    replace hb2 := hb1.trans (hb2.mono hb1.size)
    have a1 := hA.le
    have a2 := hA.big
    have HA := Lib.hid hA
    clear hb1 hA D1
    go_wp2_with fail
    go_loopw [7, 8, 9] (fun u v s wr => ∃ (n i k : Nat), n ≤ a.length ∧ s = .int .i64 n ∧ u = .int .i64 i ∧ v = .int .i64 k ∧ i ≤ l.length ∧ k ≤ m.length ∧ Below w2.heap.size w2 wr ∧ Hid (Apa a l m n i k)) (fun _ _ s _ => a.length - (intOf s).toNat)
    case atStart => exact ⟨0, 0, 0, Nat.zero_le _, rfl, rfl, rfl, Nat.zero_le _, Nat.zero_le _, Below.refl _ _, HA0.out⟩
    case round =>
      obtain ⟨n, i, k, hn, rfl, rfl, rfl, hi, hk, hbl, hap⟩ := hrel
      by_cases hlt : n < a.length
      · obtain ⟨ab, ao, rfl⟩ := HA.out.ptr (by omega) (by decide)
        have hbw := hb2.trans (hbl.mono hb2.size)
        have EA := (HA.out.ev_at hlt).below hbl (HA.out.row.lt (by simp; omega))
        have hltz : (n : Int) < (a.length : Int) := by omega
        by_cases h0 : 0 < n
        · obtain ⟨j, hj⟩ : ∃ j, n = j + 1 := ⟨n - 1, by omega⟩
          have n0z : (0 : Int) < (n : Int) := by omega
          have hn0 : decide ((0 : Int) < (n : Int)) = true := decide_eq_true n0z
          have EP := ((HA.out.ev_at (i := j) (by omega)).below hbl (HA.out.row.lt (by simp; omega))).h1
          have hsg : ¬ (a.getD n .z).s < (a.getD j .z).s := by rw [hj]; have := HSG.out j (by omega); omega
          have ej : (n : Int) - 1 = (j : Int) := by omega
          have jlt : j < a.length := by omega
          have jltz : (j : Int) < (a.length : Int) := by omega
          have hsd : decide ((a.getD n .z).s < (a.getD j .z).s) = false := decide_eq_false hsg
          clear hj
          generalize (a.getD j .z).s = ps at *
          rcases HST.out n i k hap.out hlt with ⟨q1, q2, q3⟩ | ⟨q1, q2, q3, q4, q5⟩ | ⟨q1, q2, q3, q4⟩
          · obtain ⟨lb, lo, rfl⟩ := H1.out.ptr (by omega) (by decide)
            have EL := (H1.out.ev_at q1).below hbw (H1.out.row.lt (by simp; omega))
            rw [q2] at EL
            have HQ := Lib.hid q3
            have q1z : (i : Int) < (l.length : Int) := by omega
            have q1d : decide (i < l.length) = true := decide_eq_true q1
            have q1e : decide ((i : Int) < (l.length : Int)) = true := decide_eq_true q1z
            clear q2 q3 hap
            generalize a.getD n .z = x at *
            have hq := fun W => run_eqIn_ev W x x
            rw [decide_eq_true (rfl : x = x)] at hq
            obtain ⟨xk, xs, xt, xf, xa, xl, xA, xB, x1, x2, x3, x4⟩ := x
            dsimp only [Ev.val] at hq
            obtain ⟨a0, a1', a2', a3, a4, a5, a6, a7, a8, a9, a10, a11⟩ := EA
            obtain ⟨d0, d1, d2, d3, d4, d5, d6, d7, d8, d9, d10, d11⟩ := EL
            dsimp only at *
            go_wp2_with fail
            go_quiet (fail)
            go_wp2_with fail
            go_quiet (fail)
            go_wp2_with fail
            go_roundw
            case rel => exact ⟨n + 1, i + 1, k, by omega, by go_num, by go_num, rfl, by omega, hk, by (repeat (first | exact hbl | refine below_drewN ?_ _ | refine Below.drew ?_)), HQ.out⟩
            case measure => simp [intOf]; omega
          · obtain ⟨lb, lo, rfl⟩ := H1.out.ptr (by omega) (by decide)
            obtain ⟨mb, mo, rfl⟩ := H2.out.ptr (by omega) (by decide)
            have EL := (H1.out.ev_at q1).below hbw (H1.out.row.lt (by simp; omega))
            have EM := (H2.out.ev_at q2).below hbw (H2.out.row.lt (by simp; omega))
            rw [q4] at EM
            have HQ := Lib.hid q5
            have HNE := Lib.hid q3
            have q1z : (i : Int) < (l.length : Int) := by omega
            have q1d : decide (i < l.length) = true := decide_eq_true q1
            have q1e : decide ((i : Int) < (l.length : Int)) = true := decide_eq_true q1z
            have q2z : (k : Int) < (m.length : Int) := by omega
            have q2d : decide (k < m.length) = true := decide_eq_true q2
            have q2e : decide ((k : Int) < (m.length : Int)) = true := decide_eq_true q2z
            clear q3 q4 q5 hap
            generalize a.getD n .z = x at *
            generalize l.getD i .z = y at *
            have hq := fun W => run_eqIn_ev W x x
            rw [decide_eq_true (rfl : x = x)] at hq
            have hr := fun W => run_eqIn_ev W x y
            rw [decide_eq_false HNE.out] at hr
            obtain ⟨xk, xs, xt, xf, xa, xl, xA, xB, x1, x2, x3, x4⟩ := x
            obtain ⟨yk, ys, yt, yf, ya, yl, yA, yB, y1, y2, y3, y4⟩ := y
            dsimp only [Ev.val] at hq hr
            clear HNE
            obtain ⟨a0, a1', a2', a3, a4, a5, a6, a7, a8, a9, a10, a11⟩ := EA
            obtain ⟨d0, d1, d2, d3, d4, d5, d6, d7, d8, d9, d10, d11⟩ := EL
            obtain ⟨f0, f1, f2, f3, f4, f5, f6, f7, f8, f9, f10, f11⟩ := EM
            dsimp only at *
            go_wp2_with fail
            go_quiet (fail)
            go_wp2_with fail
            go_quiet (fail)
            go_wp2_with fail
            go_quiet (fail)
            go_wp2_with fail
            go_roundw
            case rel => exact ⟨n + 1, i, k + 1, by omega, by go_num, rfl, by go_num, hi, by omega, by (repeat (first | exact hbl | refine below_drewN ?_ _ | refine Below.drew ?_)), HQ.out⟩
            case measure => simp [intOf]; omega
          · obtain ⟨mb, mo, rfl⟩ := H2.out.ptr (by omega) (by decide)
            have EM := (H2.out.ev_at q2).below hbw (H2.out.row.lt (by simp; omega))
            rw [q3] at EM
            have HQ := Lib.hid q4
            have q1z : ¬ (i : Int) < (l.length : Int) := by omega
            have q1d : decide (i < l.length) = false := decide_eq_false (by omega)
            have q1e : decide ((i : Int) < (l.length : Int)) = false := decide_eq_false q1z
            have q2z : (k : Int) < (m.length : Int) := by omega
            have q2d : decide (k < m.length) = true := decide_eq_true q2
            have q2e : decide ((k : Int) < (m.length : Int)) = true := decide_eq_true q2z
            clear q1 q3 q4 hap
            generalize a.getD n .z = x at *
            have hq := fun W => run_eqIn_ev W x x
            rw [decide_eq_true (rfl : x = x)] at hq
            obtain ⟨xk, xs, xt, xf, xa, xl, xA, xB, x1, x2, x3, x4⟩ := x
            dsimp only [Ev.val] at hq
            obtain ⟨a0, a1', a2', a3, a4, a5, a6, a7, a8, a9, a10, a11⟩ := EA
            obtain ⟨f0, f1, f2, f3, f4, f5, f6, f7, f8, f9, f10, f11⟩ := EM
            dsimp only at *
            go_wp2_with fail
            go_quiet (fail)
            go_wp2_with fail
            go_quiet (fail)
            go_wp2_with fail
            go_quiet (fail)
            go_wp2_with fail
            go_roundw
            case rel => exact ⟨n + 1, i, k + 1, by omega, by go_num, rfl, by go_num, hi, by omega, by (repeat (first | exact hbl | refine below_drewN ?_ _ | refine Below.drew ?_)), HQ.out⟩
            case measure => simp [intOf]; omega
        · have n0z : ¬ ((0 : Int) < (n : Int)) := by omega
          have hn0 : decide ((0 : Int) < (n : Int)) = false := decide_eq_false n0z
          rcases HST.out n i k hap.out hlt with ⟨q1, q2, q3⟩ | ⟨q1, q2, q3, q4, q5⟩ | ⟨q1, q2, q3, q4⟩
          · obtain ⟨lb, lo, rfl⟩ := H1.out.ptr (by omega) (by decide)
            have EL := (H1.out.ev_at q1).below hbw (H1.out.row.lt (by simp; omega))
            rw [q2] at EL
            have HQ := Lib.hid q3
            have q1z : (i : Int) < (l.length : Int) := by omega
            have q1d : decide (i < l.length) = true := decide_eq_true q1
            have q1e : decide ((i : Int) < (l.length : Int)) = true := decide_eq_true q1z
            clear q2 q3 hap
            generalize a.getD n .z = x at *
            have hq := fun W => run_eqIn_ev W x x
            rw [decide_eq_true (rfl : x = x)] at hq
            obtain ⟨xk, xs, xt, xf, xa, xl, xA, xB, x1, x2, x3, x4⟩ := x
            dsimp only [Ev.val] at hq
            obtain ⟨a0, a1', a2', a3, a4, a5, a6, a7, a8, a9, a10, a11⟩ := EA
            obtain ⟨d0, d1, d2, d3, d4, d5, d6, d7, d8, d9, d10, d11⟩ := EL
            dsimp only at *
            go_wp2_with fail
            go_quiet (fail)
            go_wp2_with fail
            go_quiet (fail)
            go_wp2_with fail
            go_roundw
            case rel => exact ⟨n + 1, i + 1, k, by omega, by go_num, by go_num, rfl, by omega, hk, by (repeat (first | exact hbl | refine below_drewN ?_ _ | refine Below.drew ?_)), HQ.out⟩
            case measure => simp [intOf]; omega
          · obtain ⟨lb, lo, rfl⟩ := H1.out.ptr (by omega) (by decide)
            obtain ⟨mb, mo, rfl⟩ := H2.out.ptr (by omega) (by decide)
            have EL := (H1.out.ev_at q1).below hbw (H1.out.row.lt (by simp; omega))
            have EM := (H2.out.ev_at q2).below hbw (H2.out.row.lt (by simp; omega))
            rw [q4] at EM
            have HQ := Lib.hid q5
            have HNE := Lib.hid q3
            have q1z : (i : Int) < (l.length : Int) := by omega
            have q1d : decide (i < l.length) = true := decide_eq_true q1
            have q1e : decide ((i : Int) < (l.length : Int)) = true := decide_eq_true q1z
            have q2z : (k : Int) < (m.length : Int) := by omega
            have q2d : decide (k < m.length) = true := decide_eq_true q2
            have q2e : decide ((k : Int) < (m.length : Int)) = true := decide_eq_true q2z
            clear q3 q4 q5 hap
            generalize a.getD n .z = x at *
            generalize l.getD i .z = y at *
            have hq := fun W => run_eqIn_ev W x x
            rw [decide_eq_true (rfl : x = x)] at hq
            have hr := fun W => run_eqIn_ev W x y
            rw [decide_eq_false HNE.out] at hr
            obtain ⟨xk, xs, xt, xf, xa, xl, xA, xB, x1, x2, x3, x4⟩ := x
            obtain ⟨yk, ys, yt, yf, ya, yl, yA, yB, y1, y2, y3, y4⟩ := y
            dsimp only [Ev.val] at hq hr
            clear HNE
            obtain ⟨a0, a1', a2', a3, a4, a5, a6, a7, a8, a9, a10, a11⟩ := EA
            obtain ⟨d0, d1, d2, d3, d4, d5, d6, d7, d8, d9, d10, d11⟩ := EL
            obtain ⟨f0, f1, f2, f3, f4, f5, f6, f7, f8, f9, f10, f11⟩ := EM
            dsimp only at *
            go_wp2_with fail
            go_quiet (fail)
            go_wp2_with fail
            go_quiet (fail)
            go_wp2_with fail
            go_quiet (fail)
            go_wp2_with fail
            go_roundw
            case rel => exact ⟨n + 1, i, k + 1, by omega, by go_num, rfl, by go_num, hi, by omega, by (repeat (first | exact hbl | refine below_drewN ?_ _ | refine Below.drew ?_)), HQ.out⟩
            case measure => simp [intOf]; omega
          · obtain ⟨mb, mo, rfl⟩ := H2.out.ptr (by omega) (by decide)
            have EM := (H2.out.ev_at q2).below hbw (H2.out.row.lt (by simp; omega))
            rw [q3] at EM
            have HQ := Lib.hid q4
            have q1z : ¬ (i : Int) < (l.length : Int) := by omega
            have q1d : decide (i < l.length) = false := decide_eq_false (by omega)
            have q1e : decide ((i : Int) < (l.length : Int)) = false := decide_eq_false q1z
            have q2z : (k : Int) < (m.length : Int) := by omega
            have q2d : decide (k < m.length) = true := decide_eq_true q2
            have q2e : decide ((k : Int) < (m.length : Int)) = true := decide_eq_true q2z
            clear q1 q3 q4 hap
            generalize a.getD n .z = x at *
            have hq := fun W => run_eqIn_ev W x x
            rw [decide_eq_true (rfl : x = x)] at hq
            obtain ⟨xk, xs, xt, xf, xa, xl, xA, xB, x1, x2, x3, x4⟩ := x
            dsimp only [Ev.val] at hq
            obtain ⟨a0, a1', a2', a3, a4, a5, a6, a7, a8, a9, a10, a11⟩ := EA
            obtain ⟨f0, f1, f2, f3, f4, f5, f6, f7, f8, f9, f10, f11⟩ := EM
            dsimp only at *
            go_wp2_with fail
            go_quiet (fail)
            go_wp2_with fail
            go_quiet (fail)
            go_wp2_with fail
            go_quiet (fail)
            go_wp2_with fail
            go_roundw
            case rel => exact ⟨n + 1, i, k + 1, by omega, by go_num, rfl, by go_num, hi, by omega, by (repeat (first | exact hbl | refine below_drewN ?_ _ | refine Below.drew ?_)), HQ.out⟩
            case measure => simp [intOf]; omega
      · obtain rfl : n = a.length := by omega
        obtain ⟨e1, e2⟩ := HEND.out i k hap.out
        subst e1 e2
        have hbw := hb2.trans (hbl.mono hb2.size)
        have hA := HA.out.below hbl
        clear hap hi hk hn HEND HSG HST HA0 hlt
        go_wp2_with fail
        refine (D2.out _ _ _ hA).mono ?_
        rintro _ w3 ⟨pb, cb, rfl, hB, hb3⟩
        replace hA := hA.below hb3
        replace hbw := hbw.trans (hb3.mono hbw.size)
        clear hb3
        go_wp2_with fail
        refine (D3.out _ _ _ hA).mono ?_
        rintro _ w4 ⟨pc, cc, rfl, hC, hb4⟩
        replace hA := hA.below hb4
        replace hB := hB.below hb4
        replace hbw := hbw.trans (hb4.mono hbw.size)
        clear hb4
        go_wp2_with fail
        refine (begun_any w4).mono ?_
        rintro _ w5 ⟨rfl, hb5⟩
        replace hA := hA.below hb5
        replace hB := hB.below hb5
        replace hC := hC.below hb5
        replace hbw := hbw.trans (hb5.mono hbw.size)
        clear hb5
        have E := sameEvents_any hA hB
        rw [decide_eq_true (rfl : a = a)] at E
        have HE := Lib.hid E
        clear E
        go_wp2_with fail
        refine HE.out.mono ?_
        rintro _ w6 ⟨rfl, hb6⟩
        replace hA := hA.below hb6
        replace hC := hC.below hb6
        replace hbw := hbw.trans (hb6.mono hbw.size)
        clear hb6 HE
        have E := sameEvents_any hA hC
        rw [decide_eq_true (rfl : a = a)] at E
        have HE := Lib.hid E
        clear E hA hB hC
        go_wp2_with fail
        refine HE.out.mono ?_
        rintro _ w7 ⟨rfl, hb7⟩
        go_wp2
        go_ret
        exact ⟨rfl, hbw.trans (hb7.mono hbw.size)⟩
  · have C1 := fun W (hW : Below w.heap.size w W) => merge_any p1 c1 l p2 c2 m W (h1.below hW) (h2.below hW) hov
    rw [mergeM_no hok] at C1
    generalize (mergeM l m).2 = er at *
    have D1 := Lib.hid C1
    have hd : (er != 0) = true := by simpa using hok
    clear C1 h1 h2 hok
    dsimp only [List.length_nil] at D1
    go_enter Try.func3, Try.ntmps3
    go_wp2_with fail
    refine (begun_any w).mono ?_
    rintro _ w1 ⟨rfl, hb1⟩
    go_wp2_with fail
    refine (D1.out _ hb1).mono ?_
    rintro _ w2 ⟨pa, ca, rfl, -, hb2⟩
    replace hb2 := hb1.trans (hb2.mono hb1.size)
    clear hb1
    go_wp2_with fail
    refine (begun_any w2).mono ?_
    rintro _ w3 ⟨rfl, hb3⟩
    go_wp2
    go_ret
    exact ⟨rfl, hb2.trans (hb3.mono hb2.size)⟩
end Go.Proofs.Ytpafnadfoedheaa
