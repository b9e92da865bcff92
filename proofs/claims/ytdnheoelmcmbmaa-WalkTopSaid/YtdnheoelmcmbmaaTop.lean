/-
  WalkTop: the walk of the law.
-/
import Derived.Test.YtdnheoelmcmbmaaWays
import Derived.Test.YtdnheoelmcmbmaaLaws2
namespace Go.Proofs.Ytdnheoelmcmbmaa
open Go.RowKit Go.Sort

set_option maxRecDepth 100000 in
set_option maxHeartbeats 2000000 in
theorem top_law {w : World} {p : Option Addr} {l : List Mk} (hM : Marks w p l) (cap : Nat) (i : Int) :
    Calls Try.prog 5 #[.slice p l.length cap, .int .i64 i] w fun e w' => e = .returned (.bool true) ∧ Below w.heap.size w w' := by
  have hS : St w w p l := ⟨hM, Below.refl _ _⟩
  clear hM
  by_cases hc : chk l.length i 1 = 0
  · obtain ⟨h0, h1, h2, -, -⟩ := chk_zero hc
    obtain ⟨n, rfl⟩ := Int.eq_ofNat_of_zero_le h0
    obtain ⟨bl, off, rfl⟩ := hS.ptr (by omega)
    have hnl : n < l.length := by omega
    have c3 := chk_how 3 hc (by omega) (by omega)
    have hT : IsTop l n (topLoop l n n n) := top_is_top
    have e1 : topM l n = (((topLoop l n n n : Nat) : Int), 0) := topM_ok hc
    generalize topLoop l n n n = t at *
    have htn := hT.le
    have htl : t < l.length := by omega
    have e2 : topM l t = (((topLoop l t t t : Nat) : Int), 0) := topM_ok (chk_same hc htl)
    have hul : topLoop l t t t ≤ t := (top_is_top (l := l) (n := t)).le
    have HU := Lib.hid (fun hd => top_top hT hd)
    have HO := Lib.hid (fun hd => top_out hT hd c3)
    generalize topLoop l t t t = u at *
    have HT := Lib.hid hT; clear hT
    have HC := Lib.hid hc; clear hc
    have H3 := Lib.hid c3; clear c3
    have q1 : decide ((n : Int) < (t : Int)) = false := by simp; omega
    have q1' : decide (n < t) = false := by simp; omega
    have q2 : decide ((t : Int) < (u : Int)) = false := by simp; omega
    have q2' : decide (t < u) = false := by simp; omega
    obtain ⟨a1, g1, k1, f1⟩ : ∃ a b e, nextM l n 3 = (a, b, e) := ⟨_, _, _, rfl⟩
    obtain ⟨a2, g2, k2, f2⟩ : ∃ a b e, nextM l t 3 = (a, b, e) := ⟨_, _, _, rfl⟩
    have hk1 : k1 = 0 := by
      rcases nextM_cases H3.out with ⟨h, -⟩ | ⟨b, -, -, h, -, -⟩ <;> (rw [f1] at h; simp at h; exact h.2.2)
    have hk2 : k2 = 0 := by
      rcases nextM_cases (chk_same H3.out htl) with ⟨h, -⟩ | ⟨b, -, -, h, -, -⟩ <;> (rw [f2] at h; simp at h; exact h.2.2)
    subst hk1 hk2
    go_enter Try.func5, Try.ntmps5
    go_wp2_with (first
        | (go_at_call 6; refine (begun_st hS).mono ?_; rintro e w1 ⟨rfl, hS⟩)
        | (go_at_call 9; refine (top_st hS _ (by assumption)).mono ?_; rintro e w1 ⟨rfl, hS⟩))
    go_loopw [7] (fun s wr => ∃ k : Nat, t ≤ k ∧ k ≤ n + 1 ∧ s = .int .i64 k ∧ St w wr (some ⟨bl, off, none⟩) l) (fun s _ => n + 1 - (intOf s).toNat)
    case atStart => exact ⟨t, Nat.le_refl _, by omega, rfl, hS⟩
    case round =>
      obtain ⟨k, hk1, hk2, rfl, hR⟩ := hrel
      clear hS
      by_cases hlt : k ≤ n
      · have hkl : k < l.length := by omega
        obtain ⟨x0, x1⟩ := hR.at_ hnl
        obtain ⟨y0, y1⟩ := hR.at_ hkl
        have q3 : decide (k ≤ n) = true := by simp; omega
        by_cases hs : (l.getD k .z).t = (l.getD n .z).t
        · have hdd := HT.out.deep k hk1 hlt hs
          rw [hs] at y0
          have q4 : decide ((l.getD k .z).d < (l.getD n .z).d) = false := decide_eq_false (by omega)
          generalize (l.getD k .z).d = yd at *
          generalize (l.getD n .z).d = xd at *
          generalize (l.getD n .z).t = xt at *
          generalize (l.getD k .z).t = yt at *
          clear hs
          go_wp2_with fail
          refine quiet_below rfl (by kernel_rfl) (by kernel_rfl) ?_
          repeat (go_big_quiet_step (fail))
          refine wpQuiet_nil ?_
          intro wz hwz
          replace hR := hR.next hwz
          clear hwz x0 x1 y0 y1
          go_wp2_with fail
          go_roundw
          case rel => exact ⟨k + 1, by omega, by omega, by go_num, hR⟩
          case measure => simp [intOf]; omega
        · have q4 : ((l.getD k .z).t == (l.getD n .z).t) = false := by simpa using hs
          generalize (l.getD n .z).t = xt at *
          generalize (l.getD k .z).t = yt at *
          generalize (l.getD k .z).d = yd at *
          generalize (l.getD n .z).d = xd at *
          clear hs
          go_wp2_with fail
          refine quiet_below rfl (by kernel_rfl) (by kernel_rfl) ?_
          repeat (go_big_quiet_step (fail))
          refine wpQuiet_nil ?_
          intro wz hwz
          replace hR := hR.next hwz
          clear hwz x0 x1 y0 y1
          go_wp2_with fail
          go_roundw
          case rel => exact ⟨k + 1, by omega, by omega, by go_num, hR⟩
          case measure => simp [intOf]; omega
      · have q3 : decide (k ≤ n) = false := by simp; omega
        by_cases hd : (l.getD t .z).d = (l.getD n .z).d
        · have hu := HU.out hd
          have ho := HO.out hd
          rw [f1, f2] at ho
          simp only [Prod.mk.injEq, and_true] at ho
          obtain ⟨rfl, rfl⟩ := ho
          subst hu
          have HD := Lib.hid hd
          clear HU HO hd
          go_wp2_with (go_at_call 9; refine (top_st hR _ e2).mono ?_; rintro e w1 ⟨rfl, hR⟩)
          obtain ⟨x0, x1⟩ := hR.at_ hnl
          obtain ⟨y0, y1⟩ := hR.at_ htl
          rw [HT.out.same] at y0
          rw [HD.out] at y1
          generalize hx : (l.getD n .z).d = xd at x1 y1
          have HX := Lib.hid hx; clear hx
          generalize (l.getD n .z).t = xt at *
          refine quiet_below rfl (by kernel_rfl) (by kernel_rfl) ?_
          repeat (go_big_quiet_step (exact Calls.regrown_of (begun_any _)))
          refine wpQuiet_nil ?_
          intro wz hwz
          replace hR := hR.next hwz
          clear hwz x0 y0 x1 y1
          go_wp2_with fail
          refine (next_st hR _ f1).mono ?_
          rintro e w1 ⟨rfl, hR⟩
          go_wp2_with fail
          refine (next_st hR _ f2).mono ?_
          rintro e w1 ⟨rfl, hR⟩
          go_wp2_with fail
          obtain ⟨-, x1⟩ := hR.at_ hnl
          obtain ⟨-, y1⟩ := hR.at_ htl
          rw [HD.out] at y1
          rw [HX.out] at x1 y1
          refine quiet_below rfl (by kernel_rfl) (by kernel_rfl) ?_
          repeat (go_big_quiet_step (exact Calls.regrown_of (begun_any _)))
          refine wpQuiet_nil ?_
          intro wz hwz
          go_wp2
          go_ret
          exact ⟨rfl, (hR.next hwz).bel⟩
        · have n1 : ((l.getD t .z).d == (l.getD n .z).d) = false := by simpa using hd
          have n2 : ((l.getD t .z).d != (l.getD n .z).d) = true := by simpa using hd
          clear HU HO hd
          go_wp2_with (go_at_call 9; refine (top_st hR _ e2).mono ?_; rintro e w1 ⟨rfl, hR⟩)
          obtain ⟨x0, x1⟩ := hR.at_ hnl
          obtain ⟨y0, y1⟩ := hR.at_ htl
          rw [HT.out.same] at y0
          generalize hx : (l.getD n .z).d = xd at x1 n1 n2
          generalize hy : (l.getD t .z).d = yd at y1 n1 n2
          have HX := Lib.hid hx; have HY := Lib.hid hy; clear hx hy
          generalize (l.getD n .z).t = xt at *
          refine quiet_below rfl (by kernel_rfl) (by kernel_rfl) ?_
          repeat (go_big_quiet_step (exact Calls.regrown_of (begun_any _)))
          refine wpQuiet_nil ?_
          intro wz hwz
          replace hR := hR.next hwz
          clear hwz x0 y0 x1 y1
          go_wp2_with fail
          refine (next_st hR _ f1).mono ?_
          rintro e w1 ⟨rfl, hR⟩
          go_wp2_with fail
          refine (next_st hR _ f2).mono ?_
          rintro e w1 ⟨rfl, hR⟩
          go_wp2_with fail
          obtain ⟨-, x1⟩ := hR.at_ hnl
          obtain ⟨-, y1⟩ := hR.at_ htl
          rw [HX.out] at x1
          rw [HY.out] at y1
          refine quiet_below rfl (by kernel_rfl) (by kernel_rfl) ?_
          repeat (go_big_quiet_step (exact Calls.regrown_of (begun_any _)))
          refine wpQuiet_nil ?_
          intro wz hwz
          go_wp2
          go_ret
          exact ⟨rfl, (hR.next hwz).bel⟩
  · have e1 := topM_bad hc
    have hb : (chk l.length i 1 != 0) = true := by simpa using hc
    clear hc
    generalize chk l.length i 1 = e at *
    go_enter Try.func5, Try.ntmps5
    go_wp2_with (first
        | (go_at_call 6; refine (begun_st hS).mono ?_; rintro e w1 ⟨rfl, hS⟩)
        | (go_at_call 9; refine (top_st hS _ (by assumption)).mono ?_; rintro e w1 ⟨rfl, hS⟩))
    go_ret
    exact ⟨rfl, hS.bel⟩

end Go.Proofs.Ytdnheoelmcmbmaa
