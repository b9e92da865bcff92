/-
  The three laws' walks.
-/
import Derived.Test.YtcmmdfhnfkmjnaaBegun
namespace Go.Proofs.Ytcmmdfhnfkmjnaa
open Go.RowKit Go.Sort

set_option maxRecDepth 100000 in
set_option maxHeartbeats 2000000 in
theorem fewLaw_any (w : World) (n : Int) : Calls Try.prog 3 #[.int .i64 n] w fun e w' => e = .returned (.bool true) ∧ Below w.heap.size w w' := by
  go_enter Try.func3, Try.ntmps3
  go_wp2_with fail
  refine (begun_any _).mono ?_
  rintro _ w1 ⟨rfl, hB⟩
  by_cases hn : 0 ≤ n ∧ n ≤ 4000
  · obtain ⟨N, rfl⟩ := Int.eq_ofNat_of_zero_le hn.1
    have hN : N ≤ 4000 := by omega
    have hk := Kept_ok w1 N hN
    have h1 := kept_pos N; have h2 := kept_first N; have h3 := kept_last N
    have hl1 := kept_len N
    have hm := fun K h => kept_many (n := N) (K := K) h
    have HK := Lib.hid hk; have H2 := Lib.hid h2; have H3 := Lib.hid h3; have HM := Lib.hid hm; clear hk h2 h3 hm hn
    generalize keptL N = O at *
    go_wp2_with fail
    refine HK.out.mono ?_
    rintro _ w2 ⟨p, c, rfl, hown, hb⟩
    have hB2 := hB.trans (hb.mono hB.size)
    have hO := Sl.of_own hown
    clear HK hown hb
    go_wp2_with fail
    go_loop [5, 6] (fun s5 s6 => ∃ K : Nat, Hid (∀ k, k < K → 2 ^ k ≤ N) ∧ s6 = .int .i64 ((2 ^ K : Nat) : Int) ∧ s5 = .int .i64 ((2 + 2 * K : Nat) : Int)) (fun _ s6 => 9000 - (intOf s6).toNat)
    case atStart => exact ⟨0, fun k hk => by omega, rfl, rfl⟩
    case round =>
      obtain ⟨K, hK, rfl, rfl⟩ := hrel
      by_cases hle : 2 ^ K ≤ N
      · have hK12 : K < 12 := by
          rcases Nat.lt_or_ge K 12 with h | h
          · exact h
          · have := Nat.pow_le_pow_right (n := 2) (by omega) h; omega
        have hpos : 0 < 2 ^ K := Nat.two_pow_pos K
        have hpow : 2 ^ (K + 1) = 2 ^ K * 2 := Nat.pow_succ 2 K
        have HKn : Hid (∀ k, k < K + 1 → 2 ^ k ≤ N) := fun k hk => by
          rcases Nat.lt_or_ge k K with h | h
          · exact hK.out k h
          · rw [show k = K by omega]; exact hle
        have HP := Lib.hid hpow; clear hpow hK
        generalize 2 ^ K = pw at *
        have q0 : decide ((pw : Int) ≤ (N : Int)) = true := decide_eq_true (by omega)
        go_wp2_with fail
        go_round
        case rel => exact ⟨K + 1, HKn, by rw [HP.out]; go_num, by go_num⟩
        case measure => simp [intOf]; omega
      · have hP : Pows N K := pows_of (by omega) hK.out
        have hm := HM.out K hP
        have hK12 : K ≤ 12 := by
          rcases Nat.lt_or_ge 12 K with h | h
          · have := hK.out 12 h; omega
          · exact h
        have q0 : decide (((2 ^ K : Nat) : Int) ≤ (N : Int)) = false := decide_eq_false (by omega)
        clear hP hK HM
        generalize 2 ^ K = pw at *
        go_wp2_with fail
        refine (begun_any _).mono ?_
        rintro _ w3 ⟨rfl, hb3⟩
        have hB3 := hB2.trans (hb3.mono hB2.size)
        have hO3 := hO.below hb3
        obtain ⟨b, off, rfl, hbb, hc0⟩ := Sl.int_at hO3 h1
        obtain ⟨b', off', hpe, -, hc9⟩ := Sl.int_at hO3 (show O.length - 1 < O.length by omega)
        simp only [Option.some.injEq, Addr.mk.injEq, and_true] at hpe
        obtain ⟨rfl, rfl⟩ := hpe
        rw [H2.out, Nat.add_zero] at hc0
        rw [H3.out] at hc9
        have q3 : (O.length : Int) - 1 = ((O.length - 1 : Nat) : Int) := by omega
        have q4 : decide ((O.length : Int) ≤ 2 + 2 * (K : Int)) = true := decide_eq_true (by omega)
        have q5 : O.length - 1 < O.length := by omega
        have q6 : (O.length : Int) ≤ 2 + 2 * (K : Int) := by omega
        go_wp2_with fail
        go_ret
        exact ⟨rfl, hB3⟩
  · have hn' : n < 0 ∨ 4000 < n := by omega
    go_wp2_with fail
    refine (Kept_no _ n hn').mono ?_
    rintro _ w2 ⟨rfl, hb⟩
    have hB2 := hB.trans (hb.mono hB.size)
    go_wp2_with fail
    refine (begun_any _).mono ?_
    rintro _ w3 ⟨rfl, hb3⟩
    have hB3 := hB2.trans (hb3.mono hB2.size)
    go_wp2_with fail
    go_ret
    exact ⟨rfl, hB3⟩
set_option maxRecDepth 100000 in
set_option maxHeartbeats 2000000 in
theorem nearLaw_any (w : World) (n at_ : Int) : Calls Try.prog 4 #[.int .i64 n, .int .i64 at_] w fun e w' => e = .returned (.bool true) ∧ Below w.heap.size w w' := by
  go_enter Try.func4, Try.ntmps4
  go_wp2_with fail
  refine (begun_any _).mono ?_
  rintro _ w1 ⟨rfl, hB⟩
  by_cases hn : 0 ≤ n ∧ n ≤ 4000
  · obtain ⟨N, rfl⟩ := Int.eq_ofNat_of_zero_le hn.1
    have hN : N ≤ 4000 := by omega
    have hk := Kept_ok w1 N hN
    have hfr := fun (w : World) p c (h : SlI w p c (keptL N)) (h0 : 0 ≤ at_) => From_any h (kept_rising N) (kept_zero N) (Nat.le_trans (kept_len N) (by omega)) (fun y hy => (kept_between hy).1) h0
    have hnr := fun (a : Nat) h => near (n := N) (at_ := a) h
    have hmk := fun (y : Nat) (h : Kp N y) => mem_kept.2 ⟨y, rfl, h⟩
    have hl1 := kept_len N
    have HK := Lib.hid hk; have HF := Lib.hid hfr; have HN := Lib.hid hnr; have HM := Lib.hid hmk; clear hk hfr hnr hmk hn
    generalize keptL N = O at *
    go_wp2_with fail
    refine HK.out.mono ?_
    rintro _ w2 ⟨p, c, rfl, hown, hb⟩
    have hB2 := hB.trans (hb.mono hB.size)
    have hO := Sl.of_own hown
    clear HK hown hb
    by_cases h0 : at_ < 0
    · go_wp2_with fail
      refine (begun_any _).mono ?_
      rintro _ w3 ⟨rfl, hb3⟩
      have hB3 := hB2.trans (hb3.mono hB2.size)
      go_wp2_with fail
      go_ret
      exact ⟨rfl, hB3⟩
    · by_cases h1 : (N : Int) < at_
      · go_wp2_with fail
        refine (begun_any _).mono ?_
        rintro _ w3 ⟨rfl, hb3⟩
        have hB3 := hB2.trans (hb3.mono hB2.size)
        go_wp2_with fail
        go_ret
        exact ⟨rfl, hB3⟩
      · have hf := HF.out w2 p c hO (by omega)
        obtain ⟨y, hy1, hy2, hy3⟩ := HN.out at_.toNat (by omega)
        have hym := HM.out y hy1
        have HFf := Lib.hid hf; have HY := Lib.hid hym
        clear hf hym HF HN HM hy1
        go_wp2_with fail
        refine HFf.out.mono ?_
        rintro _ w3 ⟨k, rfl, hk1, hk2, hk3, hb3⟩
        have hB3 := hB2.trans (hb3.mono hB2.size)
        have hyk := hk3 _ HY.out (by omega)
        have q1 : decide (at_ - k < 2 * ((N : Int) - at_ + 1)) = true := decide_eq_true (by omega)
        have q2 : decide (k ≤ at_) = true := decide_eq_true hk2
        have hk0 : 0 ≤ k := by omega
        have hlt : at_ - k < 2 * ((N : Int) - at_ + 1) := by omega
        clear hk1 hk3 HFf HY
        go_wp2_with fail
        refine (begun_any _).mono ?_
        rintro _ w4 ⟨rfl, hb4⟩
        have hB4 := hB3.trans (hb4.mono hB3.size)
        go_wp2_with fail
        go_ret
        exact ⟨rfl, hB4⟩
  · have hn' : n < 0 ∨ 4000 < n := by omega
    go_wp2_with fail
    refine (Kept_no _ n hn').mono ?_
    rintro _ w2 ⟨rfl, hb⟩
    have hB2 := hB.trans (hb.mono hB.size)
    go_wp2_with fail
    refine (begun_any _).mono ?_
    rintro _ w3 ⟨rfl, hb3⟩
    have hB3 := hB2.trans (hb3.mono hB2.size)
    go_wp2_with fail
    go_ret
    exact ⟨rfl, hB3⟩
set_option maxRecDepth 100000 in
set_option maxHeartbeats 2000000 in
theorem goneLaw_any (w : World) (n : Int) : Calls Try.prog 5 #[.int .i64 n] w fun e w' => e = .returned (.bool true) ∧ Below w.heap.size w w' := by
  go_enter Try.func5, Try.ntmps5
  go_wp2_with fail
  refine (begun_any _).mono ?_
  rintro _ w1 ⟨rfl, hB⟩
  by_cases h1 : n < 1
  · go_wp2_with fail
    refine (begun_any _).mono ?_
    rintro _ w3 ⟨rfl, hb3⟩
    have hB3 := hB.trans (hb3.mono hB.size)
    go_wp2_with fail
    go_ret
    exact ⟨rfl, hB3⟩
  · by_cases h2 : 300 < n
    · go_wp2_with fail
      refine (begun_any _).mono ?_
      rintro _ w3 ⟨rfl, hb3⟩
      have hB3 := hB.trans (hb3.mono hB.size)
      go_wp2_with fail
      go_ret
      exact ⟨rfl, hB3⟩
    · obtain ⟨N, rfl⟩ := Int.eq_ofNat_of_zero_le (show 0 ≤ n by omega)
      have hk : Calls Try.prog 7 #[.int .i64 0] w1 _ := Kept_ok w1 0 (by omega)
      have HK := Lib.hid hk; clear hk
      go_wp2_with fail
      refine HK.out.mono ?_
      rintro _ w2 ⟨p, c, rfl, hown, hb⟩
      have hB2 := hB.trans (hb.mono hB.size)
      have hO := Sl.of_own hown
      clear HK hown hb
      go_wp2_with fail
      go_loopw [3, 5] (fun s3 s5 wr => ∃ (i j : Nat) (p : Option Addr) (c : Nat), i = j + 1 ∧ j ≤ N ∧ s5 = .int .i64 i ∧ s3 = .slice p (keptL j).length c ∧ SlI wr p c (keptL j) ∧ Below w2.heap.size w2 wr) (fun _ s5 _ => N + 1 - (intOf s5).toNat)
      case atStart => exact ⟨1, 0, p, c, rfl, by omega, rfl, rfl, hO, Below.refl _ _⟩
      case round =>
        clear hO
        obtain ⟨i, j, p, c, hij, hj, rfl, rfl, hO, hb⟩ := hrel
        by_cases hlt : i ≤ N
        · have ha := Add_any (w := wr) hij (by omega) rfl hO
          have hgl := gone_len (n := i) (by omega)
          rw [show i - 1 = j by omega] at hgl
          have hla := kept_last i; have hpo := kept_pos i
          have hl1 := kept_len i; have hl2 := kept_len j
          have HA := Lib.hid ha; have HLA := Lib.hid hla; have HE := Lib.hid hij
          clear ha hla
          have q0 : decide ((i : Int) ≤ (N : Int)) = true := decide_eq_true (by omega)
          generalize hMm : keptL i = M at *
          generalize keptL j = L at *
          generalize goneL i = G at *
          have HMm := Lib.hid hMm; clear hMm hij
          go_wp2_with fail
          refine HA.out.mono ?_
          rintro _ w3 ⟨p1, c1, p2, c2, rfl, hM, hG, hb3⟩
          have hz := hb.size
          have hb' := hb.trans (hb3.mono hz)
          obtain ⟨b, off, rfl, hbb, hc9⟩ := Sl.int_at hM (show M.length - 1 < M.length by omega)
          rw [HLA.out] at hc9
          have q3 : (M.length : Int) - 1 = ((M.length - 1 : Nat) : Int) := by omega
          have q5 : M.length - 1 < M.length := by omega
          have q6 : ((M.length : Int) != (L.length : Int) + 1 - (G.length : Int)) = false := by simp; omega
          clear HA
          go_wp2_with fail
          go_roundw
          case rel => exact ⟨i + 1, i, _, c1, rfl, hlt, by go_num, by rw [HMm.out], by rw [HMm.out]; exact hM, hb'⟩
          case measure => simp [intOf]; omega
        · obtain rfl : j = N := by omega
          have q0 : decide ((i : Int) ≤ (j : Int)) = false := decide_eq_false (by omega)
          have hk := Kept_ok wr j (by omega)
          generalize keptL j = L at *
          have HK := Lib.hid hk; clear hk
          go_wp2_with fail
          refine HK.out.mono ?_
          rintro _ w3 ⟨p1, c1, rfl, hown, hb3⟩
          have hb' := hb.trans (hb3.mono hb.size)
          have hB3 := hB2.trans (hb'.mono hB2.size)
          have hO3 := hO.below hb3
          have hK3 := Sl.of_own hown
          clear HK hown
          go_wp2_with fail
          refine (begun_any _).mono ?_
          rintro _ w4 ⟨rfl, hb4⟩
          have hB4 := hB3.trans (hb4.mono hB3.size)
          have hsm := sameI_is (hK3.below hb4) (hO3.below hb4) (b := true) (decide_eq_true rfl)
          have HS := Lib.hid hsm; clear hsm hO3 hK3
          go_wp2_with fail
          refine HS.out.mono ?_
          rintro _ w5 ⟨rfl, hb5⟩
          have hB5 := hB4.trans (hb5.mono hB4.size)
          go_wp2_with fail
          go_ret
          exact ⟨rfl, hB5⟩
end Go.Proofs.Ytcmmdfhnfkmjnaa
