/-
  The walk of HuntRow.
-/
import Derived.Test.YtoillodfabdeeaaRowJ
namespace Go.Proofs.Ytoillodfabdeeaa
open Go.RowKit Go.Sort

theorem rowJ_end {ps : List Pt} {n : Nat} (h : IsRow ps n) (hn : n ≤ 200) {c b : Int} {d : Nat} {g : List Int} {m : Nat} (hJ : RowJ ps c d b g m) (hb : 0 ≤ b ∧ b < ps.length) (hp : pickM ps b g < 0) : b = c ∧ m ≤ d := by
  obtain ⟨k, rfl⟩ := Int.eq_ofNat_of_zero_le hb.1
  obtain ⟨lo, hlo, hS, hc1, hc2, hmd, -⟩ := hJ
  rw [Int.toNat_natCast] at hS
  have := pick_none (row_ok h hn) (by omega) hp ((hS c).2 ⟨hc1, hc2⟩)
  exact ⟨this.symm, hmd⟩
theorem row1_pred {W : World} {CB : Nat} {c : Int} (bC : Blk W CB #[.int .i64 c] 3) : PredV W 13 #[.pointer (some ⟨CB, 0, none⟩)] (Value.int .i64) (fun _ _ => True) (fun x => decide (c ≤ x)) := by
  refine ⟨enters_own Try.func13 (by kernel_rfl) rfl, fun w' hb x _ => ?_⟩
  have c1 := (bC.next hb).cell 0
  change w'.cell? ⟨CB, 0, none⟩ = some (.int .i64 c) at c1
  go_enter Try.func13, Try.ntmps13
  go_wp2
  go_ret
  exact ⟨rfl, Below.refl _ _⟩

theorem digits_of (n : Nat) : ∃ d, n ≤ 2 ^ d ∧ ∀ e, e < d → 2 ^ e < n := by
  induction n with
  | zero => exact ⟨0, by simp, fun e he => by omega⟩
  | succ n ih =>
    obtain ⟨d, h1, h2⟩ := ih
    by_cases h : n + 1 ≤ 2 ^ d
    · exact ⟨d, h, fun e he => by have := h2 e he; omega⟩
    · refine ⟨d + 1, by rw [Nat.pow_succ]; have := Nat.one_le_two_pow (n := d); omega, fun e he => ?_⟩
      rcases Nat.lt_or_ge e d with h3 | h3
      · have := h2 e h3; omega
      · obtain rfl : e = d := by omega
        omega
theorem rowJ_start {ps : List Pt} {n : Nat} (h : IsRow ps n) (hn : n ≤ 200) (hn1 : 1 ≤ n) {c : Int} (hc : 0 ≤ c ∧ c < n) {d : Nat} (hd : n ≤ 2 ^ d) : askE ps ((n - 1 : Nat) : Int) [] = 0 ∧ RowJ ps c d ((n - 1 : Nat) : Int) [] 0 := by
  have hO := row_ok h hn
  have hl := h.1
  have hS : ∀ x, x ∈ suspP ps (n - 1) [] ↔ 0 ≤ x ∧ x ≤ ((n - 1 : Nat) : Int) := fun x => by
    rw [mem_susp, row_bk h hn (by omega)]; simp
  have hlen := span_len (susp_rising ps (n - 1) []) hS (by omega)
  refine ⟨askE_ok hO (by omega) (fun g hg => by cases hg) ((hS _).2 ⟨by omega, by omega⟩), 0, Int.le_refl _, ?_, hc.1, by omega, Nat.zero_le _, ?_⟩
  · rw [Int.toNat_natCast]; exact hS
  · rw [Int.toNat_natCast, Nat.sub_zero]; omega

set_option maxRecDepth 100000 in
set_option maxHeartbeats 4000000 in
theorem rowLaw_any (w : World) (n c : Int) :
    Calls Try.prog 4 #[.int .i64 n, .int .i64 c] w fun e w' => e = .returned (.bool true) ∧ Below w.heap.size w w' := by
  have hal := (Below.refl w.heap.size w).alloc (Nat.le_refl _) (.cells #[.int .i64 c] 3)
  have bC := Blk.mk_ w #[.int .i64 c] 3 rfl
  go_enter Try.func4, Try.ntmps4
  go_wp2_with fail
  refine (begun_any _).mono ?_
  rintro _ w1 ⟨rfl, hb1⟩
  have hB := hal.trans (hb1.mono hal.size)
  replace bC := bC.next hb1
  have c1 := bC.cell 0
  change w1.cell? ⟨w.heap.size, 0, none⟩ = some (.int .i64 c) at c1
  clear hal hb1
  by_cases h1 : n < 1
  · go_wp2_with fail
    refine (begun_any _).mono ?_
    rintro _ w2 ⟨rfl, hb2⟩
    go_wp2_with fail
    go_ret
    exact ⟨rfl, hB.trans (hb2.mono hB.size)⟩
  · by_cases h2 : 100 < n
    · go_wp2_with fail
      refine (begun_any _).mono ?_
      rintro _ w2 ⟨rfl, hb2⟩
      go_wp2_with fail
      go_ret
      exact ⟨rfl, hB.trans (hb2.mono hB.size)⟩
    · by_cases h3 : 0 ≤ c ∧ c < n
      · obtain ⟨h3a, h3b⟩ := h3
        obtain ⟨N, rfl⟩ := Int.eq_ofNat_of_zero_le (show 0 ≤ n by omega)
        obtain ⟨d, hd1, hd2⟩ := digits_of N
        have hrow := row_any w1 N (by omega) (by omega)
        have HR := Lib.hid hrow; have HD2 := Lib.hid hd2; have HD1 := Lib.hid hd1; clear hrow hd2 hd1
        have e1 : (N : Int) - 1 = ((N - 1 : Nat) : Int) := by omega
        have q1 : decide (c < 0) = false := decide_eq_false (by omega)
        have q2 : decide ((N : Int) ≤ c) = false := decide_eq_false (by omega)
        have h3c : ¬ c < 0 := by omega
        have h3d : ¬ (N : Int) ≤ c := by omega
        go_wp2_with fail
        refine HR.out.mono ?_
        rintro _ w2 ⟨ps, rfl, hDp, hI, hb2⟩
        go_wp2_with fail
        obtain ⟨ha, hJ⟩ := rowJ_start hI (by omega) (by omega) (c := c) ⟨h3a, h3b⟩ HD1.out
        have hB2 := hB.trans (hb2.mono hB.size)
        have bC2 := bC.next hb2
        refine (hunt_is hDp hI.1.symm (Sl.zero _ _) rfl (by simp) _ (row1_pred bC2) (fun _ _ _ _ _ => trivial) ha hJ (row_goes hI (by omega) c d)).mono ?_
        rintro _ w3 ⟨b, g, m, hJ2, hpk, hbr, -, rfl, hb3⟩
        obtain ⟨rfl, hmd⟩ := rowJ_end hI (by omega) hJ2 hbr hpk
        have hB3 := hB2.trans (hb3.mono hB2.size)
        have bC3 := bC2.next hb3
        clear hJ hJ2 hpk ha c1 HR
        go_wp2_with fail
        go_loop [8] (fun s => ∃ e : Nat, e ≤ d ∧ s = .int .i64 e) (fun s => d - (intOf s).toNat)
        case atStart => exact ⟨0, Nat.zero_le _, rfl⟩
        case round =>
          obtain ⟨e, he, rfl⟩ := hrel
          have hd7 : d ≤ 7 := by
            rcases Nat.lt_or_ge 7 d with h | h
            · have := HD2.out 7 h; omega
            · exact h
          have hyes : 2 ^ e < N → e + 1 ≤ d := fun h => by
            rcases Nat.lt_or_ge e d with h5 | h5
            · exact h5
            · have := HD1.out
              obtain rfl : e = d := by omega
              omega
          have hno : ¬ 2 ^ e < N → m ≤ e := fun h => by
            rcases Nat.lt_or_ge e d with h5 | h5
            · exact absurd (HD2.out e h5) h
            · omega
          have HY := Lib.hid hyes; have HN := Lib.hid hno; clear hyes hno HD1 HD2
          by_cases hlt : 2 ^ e < N
          · have h9 := HY.out hlt
            have hltI : (1 : Int) * 2 ^ e < (N : Int) := by rw [Int.one_mul]; exact_mod_cast hlt
            have H9 := Lib.hid h9; clear h9
            have he7 : e ≤ 7 := by omega
            clear HY HN
            rcases (by omega : e = 0 ∨ e = 1 ∨ e = 2 ∨ e = 3 ∨ e = 4 ∨ e = 5 ∨ e = 6 ∨ e = 7) with rfl | rfl | rfl | rfl | rfl | rfl | rfl | rfl
            all_goals first | (exfalso; omega) | skip
            all_goals
              go_wp2_with fail
              go_round
              case rel => exact ⟨_, H9.out, by go_num⟩
              case measure => simp [intOf]; have := H9.out; omega
          · have h9 := HN.out hlt
            have hltI : ¬ (1 : Int) * 2 ^ e < (N : Int) := by rw [Int.one_mul]; intro h; exact hlt (by exact_mod_cast h)
            have q9 : decide ((m : Int) ≤ (e : Int)) = true := decide_eq_true (by omega)
            have q9' : (m : Int) ≤ (e : Int) := by omega
            clear HY HN
            have he7 : e ≤ 7 := by omega
            have hm9 : m ≤ e := h9
            have hmd' := Lib.hid hm9; clear hmd hm9 h9
            rcases (by omega : e = 0 ∨ e = 1 ∨ e = 2 ∨ e = 3 ∨ e = 4 ∨ e = 5 ∨ e = 6 ∨ e = 7) with rfl | rfl | rfl | rfl | rfl | rfl | rfl | rfl
            all_goals
              go_wp2_with fail
              refine (begun_any _).mono ?_
              rintro _ w4 ⟨rfl, hb4⟩
              have hB4 := hB3.trans (hb4.mono hB3.size)
              have c4 := (bC3.next hb4).cell 0
              change w4.cell? ⟨w.heap.size, 0, none⟩ = some (.int .i64 _) at c4
              have hm4 := hmd'.out
              go_wp2_with fail
              go_ret
              refine ⟨?_, hB4⟩
              show Ending.returned (Value.bool (decide _)) = _
              rw [decide_eq_true (by omega)]
      · by_cases h4 : c < 0
        · go_wp2_with fail
          refine (begun_any _).mono ?_
          rintro _ w2 ⟨rfl, hb2⟩
          go_wp2_with fail
          go_ret
          exact ⟨rfl, hB.trans (hb2.mono hB.size)⟩
        · have h5 : n ≤ c := by omega
          go_wp2_with fail
          refine (begun_any _).mono ?_
          rintro _ w2 ⟨rfl, hb2⟩
          go_wp2_with fail
          go_ret
          exact ⟨rfl, hB.trans (hb2.mono hB.size)⟩
end Go.Proofs.Ytoillodfabdeeaa
