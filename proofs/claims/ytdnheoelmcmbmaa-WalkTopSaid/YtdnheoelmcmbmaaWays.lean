/-
  WalkWays, WalkTop: the walks of the laws.
-/
import Derived.Test.YtdnheoelmcmbmaaBack
import Derived.Test.YtdnheoelmcmbmaaFast
namespace Go.Proofs.Ytdnheoelmcmbmaa
open Go.RowKit Go.Sort

theorem St.drew {W w : World} {p : Option Addr} {l : List Mk} (h : St W w p l) : St W w.drew p l := h.next (Below.refl _ _).drew

theorem St.ptr {W w : World} {p : Option Addr} {l : List Mk} (h : St W w p l) (hl : 0 < l.length) : ∃ b off, p = some ⟨b, off, none⟩ := by
  obtain ⟨⟨⟨b, off, h1, -⟩, -⟩, -⟩ := h
  exact ⟨b, off, (h1 hl).1⟩

theorem St.at_ {W w : World} {b off : Nat} {l : List Mk} (h : St W w (some ⟨b, off, none⟩) l) {i : Nat} (hi : i < l.length) :
    (∀ d os, (grow (redrawn w d) os).cell? ⟨b, off + i * 3, none⟩ = some (.int .i64 (l.getD i .z).t)) ∧ (∀ d os, (grow (redrawn w d) os).cell? ⟨b, off + i * 3 + 1, none⟩ = some (.int .i64 (l.getD i .z).d)) := by
  obtain ⟨⟨⟨b', off', h1, h2⟩, -⟩, -⟩ := h
  obtain ⟨e, -⟩ := h1 (by omega)
  simp only [Option.some.injEq, Addr.mk.injEq, and_true] at e
  obtain ⟨rfl, rfl⟩ := e
  exact ⟨cell_regrown (h2 i hi).1, cell_regrown (h2 i hi).2.1⟩

set_option maxRecDepth 100000 in
set_option maxHeartbeats 2000000 in
theorem ways_any {w : World} {p : Option Addr} {l : List Mk} (hM : Marks w p l) (cap : Nat) (i : Int) :
    Calls Try.prog 4 #[.slice p l.length cap, .int .i64 i] w fun e w' => e = .returned (.bool true) ∧ Below w.heap.size w w' := by
  have hS : St w w p l := ⟨hM, Below.refl _ _⟩
  clear hM
  by_cases hc : chk l.length i 1 = 0
  · obtain ⟨h0, h1, h2, -, -⟩ := chk_zero hc
    obtain ⟨n, rfl⟩ := Int.eq_ofNat_of_zero_le h0
    obtain ⟨bl, off, rfl⟩ := hS.ptr (by omega)
    have hnl : n < l.length := by omega
    rcases ways hc with ⟨e1, hlt, e2, e4, e3⟩ | ⟨e1, hlt, ⟨e2, e4, e3⟩ | ⟨a, ha1, ha2, e2, hd, ⟨e4, e3⟩ | ⟨b, hb1, hb2, e4, e3 | ⟨o, ho1, ho2, e3, hd2⟩⟩⟩⟩
    · clear hc
      have hdec : decide ((n : Int) + 1 < (l.length : Int)) = false := by simp; omega
      go_enter Try.func4, Try.ntmps4
      go_wp2_with (first
        | (go_at_call 6; refine (begun_st hS).mono ?_; rintro e w1 ⟨rfl, hS⟩)
        | (go_at_call 8; refine (next_st hS _ (by assumption)).mono ?_; rintro e w1 ⟨rfl, hS⟩))
      refine quiet_below (by dsimp only [List.append]) (by kernel_rfl) (by kernel_rfl) ?_
      repeat (go_big_quiet_step (exact Calls.regrown_of (begun_any _)))
      refine wpQuiet_nil ?_
      intro wz hwz
      go_wp2
      go_ret
      exact ⟨rfl, (hS.next hwz).bel⟩
    · clear hc
      have hdec : decide ((n : Int) + 1 < (l.length : Int)) = true := by simp; omega
      go_enter Try.func4, Try.ntmps4
      go_wp2_with (first
        | (go_at_call 6; refine (begun_st hS).mono ?_; rintro e w1 ⟨rfl, hS⟩)
        | (go_at_call 8; refine (next_st hS _ (by assumption)).mono ?_; rintro e w1 ⟨rfl, hS⟩))
      refine quiet_below (by dsimp only [List.append]) (by kernel_rfl) (by kernel_rfl) ?_
      repeat (go_big_quiet_step (exact Calls.regrown_of (begun_any _)))
      refine wpQuiet_nil ?_
      intro wz hwz
      go_wp2
      go_ret
      exact ⟨rfl, (hS.next hwz).bel⟩
    · clear hc
      have hdec : decide ((n : Int) + 1 < (l.length : Int)) = true := by simp; omega
      have q1 : decide (n + 1 ≤ a) = true := by simp; omega
      have q1' : decide ((n : Int) + 1 ≤ (a : Int)) = true := by simp; omega
      have qd : decide ((l.getD a .z).d ≤ (l.getD n .z).d) = true := by simpa using hd
      generalize hx : (l.getD a .z).d = x at hd qd
      generalize hy : (l.getD n .z).d = y at hd qd
      have Hx := Lib.hid hx; have Hy := Lib.hid hy; clear hx hy
      go_enter Try.func4, Try.ntmps4
      go_wp2_with (first
        | (go_at_call 6; refine (begun_st hS).mono ?_; rintro e w1 ⟨rfl, hS⟩)
        | (go_at_call 8; refine (next_st hS _ (by assumption)).mono ?_; rintro e w1 ⟨rfl, hS⟩))
      have c1 := (hS.at_ ha2).2
      have c2 := (hS.at_ hnl).2
      rw [Hx.out] at c1
      rw [Hy.out] at c2
      refine quiet_below (by dsimp only [List.append]) (by kernel_rfl) (by kernel_rfl) ?_
      repeat (go_big_quiet_step (exact Calls.regrown_of (begun_any _)))
      refine wpQuiet_nil ?_
      intro wz hwz
      go_wp2
      go_ret
      exact ⟨rfl, (hS.next hwz).bel⟩
    · clear hc
      have hdec : decide ((n : Int) + 1 < (l.length : Int)) = true := by simp; omega
      have q1 : decide (n + 1 ≤ a) = true := by simp; omega
      have q1' : decide ((n : Int) + 1 ≤ (a : Int)) = true := by simp; omega
      have q2 : decide (a ≤ b) = true := by simp; omega
      have q2' : decide ((a : Int) ≤ (b : Int)) = true := by simp; omega
      have qd : decide ((l.getD a .z).d ≤ (l.getD n .z).d) = true := by simpa using hd
      generalize hx : (l.getD a .z).d = x at hd qd
      generalize hy : (l.getD n .z).d = y at hd qd
      have Hx := Lib.hid hx; have Hy := Lib.hid hy; clear hx hy
      go_enter Try.func4, Try.ntmps4
      go_wp2_with (first
        | (go_at_call 6; refine (begun_st hS).mono ?_; rintro e w1 ⟨rfl, hS⟩)
        | (go_at_call 8; refine (next_st hS _ (by assumption)).mono ?_; rintro e w1 ⟨rfl, hS⟩))
      have c1 := (hS.at_ ha2).2
      have c2 := (hS.at_ hnl).2
      rw [Hx.out] at c1
      rw [Hy.out] at c2
      refine quiet_below (by dsimp only [List.append]) (by kernel_rfl) (by kernel_rfl) ?_
      repeat (go_big_quiet_step (exact Calls.regrown_of (begun_any _)))
      refine wpQuiet_nil ?_
      intro wz hwz
      go_wp2
      go_ret
      exact ⟨rfl, (hS.next hwz).bel⟩
    · clear hc
      have hdec : decide ((n : Int) + 1 < (l.length : Int)) = true := by simp; omega
      have q1 : decide (n + 1 ≤ a) = true := by simp; omega
      have q1' : decide ((n : Int) + 1 ≤ (a : Int)) = true := by simp; omega
      have q2 : decide (a ≤ b) = true := by simp; omega
      have q2' : decide ((a : Int) ≤ (b : Int)) = true := by simp; omega
      have q3 : decide (b ≤ o) = true := by simp; omega
      have q3' : decide ((b : Int) ≤ (o : Int)) = true := by simp; omega
      have qd : decide ((l.getD a .z).d ≤ (l.getD n .z).d) = true := by simpa using hd
      have qo : decide ((l.getD o .z).d < (l.getD n .z).d) = true := by simpa using hd2
      generalize hx : (l.getD a .z).d = x at hd qd
      generalize hz : (l.getD o .z).d = z at hd2 qo
      generalize hy : (l.getD n .z).d = y at hd hd2 qd qo
      have Hx := Lib.hid hx; have Hy := Lib.hid hy; have Hz := Lib.hid hz; clear hx hy hz
      go_enter Try.func4, Try.ntmps4
      go_wp2_with (first
        | (go_at_call 6; refine (begun_st hS).mono ?_; rintro e w1 ⟨rfl, hS⟩)
        | (go_at_call 8; refine (next_st hS _ (by assumption)).mono ?_; rintro e w1 ⟨rfl, hS⟩))
      have c1 := (hS.at_ ha2).2
      have c2 := (hS.at_ hnl).2
      have c3 := (hS.at_ ho2).2
      rw [Hx.out] at c1
      rw [Hy.out] at c2
      rw [Hz.out] at c3
      refine quiet_below (by dsimp only [List.append]) (by kernel_rfl) (by kernel_rfl) ?_
      repeat (go_big_quiet_step (exact Calls.regrown_of (begun_any _)))
      refine wpQuiet_nil ?_
      intro wz hwz
      go_wp2
      go_ret
      exact ⟨rfl, (hS.next hwz).bel⟩
  · have e1 := nextM_bad hc
    have e2 : nextM l i 2 = _ := nextM_bad (fun h => hc (chk_how 1 h (by omega) (by omega)))
    have e4 : nextM l i 4 = _ := nextM_bad (fun h => hc (chk_how 1 h (by omega) (by omega)))
    have e3 : nextM l i 3 = _ := nextM_bad (fun h => hc (chk_how 1 h (by omega) (by omega)))
    have s2 : chk l.length i 2 = chk l.length i 1 := by unfold chk; simp
    have s3 : chk l.length i 3 = chk l.length i 1 := by unfold chk; simp
    have s4 : chk l.length i 4 = chk l.length i 1 := by unfold chk; simp
    rw [s2] at e2; rw [s3] at e3; rw [s4] at e4
    clear s2 s3 s4
    have hb : (chk l.length i 1 != 0) = true := by simpa using hc
    clear hc
    generalize chk l.length i 1 = e at *
    go_enter Try.func4, Try.ntmps4
    go_wp2_with (first
        | (go_at_call 6; refine (begun_st hS).mono ?_; rintro e w1 ⟨rfl, hS⟩)
        | (go_at_call 8; refine (next_st hS _ (by assumption)).mono ?_; rintro e w1 ⟨rfl, hS⟩))
    go_ret
    exact ⟨rfl, hS.bel⟩

end Go.Proofs.Ytdnheoelmcmbmaa
