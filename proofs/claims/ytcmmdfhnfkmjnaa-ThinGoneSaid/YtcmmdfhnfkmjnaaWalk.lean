/-
  kept, Kept, Add, From.
-/
import Derived.Test.YtcmmdfhnfkmjnaaKept
import Derived.Test.YtcmmdfhnfkmjnaaSortI
import Derived.Test.YtcmmdfhnfkmjnaaMix
import Derived.Test.YtcmmdfhnfkmjnaaFast
import Derived.Test.YtcmmdfhnfkmjnaaBlk
namespace Go.Proofs.Ytcmmdfhnfkmjnaa
open Go.RowKit Go.Sort

set_option maxRecDepth 100000 in
set_option maxHeartbeats 2000000 in
theorem kept_any (w : World) (n : Nat) (hn : n ≤ 4000) :
    Calls Try.prog 11 #[.int .i64 n] w fun e w' => ∃ p c, e = .returned (.slice p (keptL n).length c) ∧ OwnI w' w.heap.size p c (keptL n) ∧ Below w.heap.size w w' := by
  obtain ⟨i0, hi0, iz0, iz1, iz2⟩ := info_parts infoI
  have hown0 : OwnI (w.alloc (.cells #[.int .i64 0, .int .i64 n] 3)) w.heap.size (some ⟨w.heap.size, 0, none⟩) 2 (rawL n 0) := World.ownsRow_lit w #[.int .i64 0, .int .i64 n] 2 (Nat.le_refl _) (by unfold maxLen; omega) rfl
  have hB0 := (Below.refl w.heap.size w).alloc (Nat.le_refl _) (.cells #[.int .i64 0, .int .i64 n] 3)
  go_enter Try.func11, Try.ntmps11
  go_wp2_with fail
  go_loopw [3, 4] (fun s3 s4 wr => ∃ (K : Nat) (p : Option Addr) (c : Nat), (∀ k, k < K → 2 ^ k ≤ n) ∧ s4 = .int .i64 ((2 ^ K : Nat) : Int) ∧ s3 = .slice p (rawL n K).length c ∧ OwnI wr w.heap.size p c (rawL n K) ∧ Below w.heap.size w wr) (fun _ s4 _ => 9000 - (intOf s4).toNat)
  case atStart => exact ⟨0, _, _, fun k hk => by omega, rfl, rfl, hown0, hB0⟩
  case round =>
    clear hown0 hB0
    obtain ⟨K, p, c, hK, rfl, rfl, hown, hB⟩ := hrel
    have hlen := raw_length n K
    by_cases hle : 2 ^ K ≤ n
    · have hK12 : K < 12 := by
        rcases Nat.lt_or_ge K 12 with h | h
        · exact h
        · have := Nat.pow_le_pow_right (n := 2) (by omega) h; omega
      have hpos : 0 < 2 ^ K := Nat.two_pow_pos K
      have hpow : 2 ^ (K + 1) = 2 ^ K * 2 := Nat.pow_succ 2 K
      have hraw : rawL n (K + 1) = rawL n K ++ [((n - n % 2 ^ K : Nat) : Int), ((n - n % 2 ^ K - 2 ^ K : Nat) : Int)] := rfl
      have HK : Hid (∀ k, k < K + 1 → 2 ^ k ≤ n) := fun k hk => by
        rcases Nat.lt_or_ge k K with h | h
        · exact hK k h
        · rw [show k = K by omega]; exact hle
      have HP := Lib.hid hpow; have HR := Lib.hid hraw; clear hpow hraw hK
      have HL := Lib.hid hlen; clear hlen
      generalize hR : rawL n K = R at *
      generalize 2 ^ K = pw at *
      have hm1 : Int.tmod (n : Int) (pw : Int) = ((n % pw : Nat) : Int) := rfl
      have hlt := Nat.mod_lt n hpos
      have hmle := Nat.mod_le n pw
      have q0 : decide ((pw : Int) ≤ (n : Int)) = true := decide_eq_true (by omega)
      have q1 : ((pw : Int) == 0) = false := by simp; omega
      have hz := hB.size
      generalize hmd : n % pw = md at *
      have hal := (Below.refl wr.heap.size wr).alloc (Nat.le_refl _) (.cells #[.int .i64 ((n : Int) - md), .int .i64 (max 0 ((n : Int) - md - pw))] 3)
      have hbs : w.heap.size ≤ (wr.alloc (.cells #[.int .i64 ((n : Int) - md), .int .i64 (max 0 ((n : Int) - md - pw))] 3)).heap.size := Nat.le_trans hz hal.size
      have hl24 : R.length + 2 ≤ 100 := by have := HL.out; omega
      go_wp2_with (at_builtin; refine wpList_append_sl _ rfl _ _ 23 rfl w.heap.size 3 i0 (.int .i64 0) 1 8 Try.underlying23 hi0 iz0 iz1 iz2 rfl (by decide) _ _ _ rfl (own_below hown hal) _ 2 2 (ints .i64 [(n : Int) - md, max 0 ((n : Int) - md - pw)]) rfl (lit_sl wr [(n : Int) - md, max 0 ((n : Int) - md - pw)] (by simp) #[.int .i64 ((n : Int) - md), .int .i64 (max 0 ((n : Int) - md - pw))] rfl _ rfl 2 rfl) ints_one (by omega) (by omega) hbs ?_; intro p' c' w5 hown5 hb5)
      rw [← ints_append] at hown5
      have hBel := hB.trans ((hal.mono hz).trans hb5)
      go_roundw
      case rel =>
        have hr : R ++ [(n : Int) - md, max 0 ((n : Int) - md - pw)] = rawL n (K + 1) := by
          rw [HR.out]; congr 2
          · omega
          · congr 1; omega
        have hl2 : R.length + 2 = (rawL n (K + 1)).length := by rw [← hr]; simp
        rw [hr] at hown5
        refine ⟨K + 1, p', c', HK.out, ?_, by rw [hl2], ?_, hBel⟩
        · rw [HP.out]; go_num
        · unfold OwnI; rw [← hl2]; exact hown5
      case measure => simp [intOf]; omega
    · have hP : Pows n K := pows_of (by omega) hK
      have hke := kept_eq hP
      have hlK := kept_many hP
      have hraw0 : 0 < (rawL n K).length := by omega
      have q0 : decide (((2 ^ K : Nat) : Int) ≤ (n : Int)) = false := decide_eq_false (by omega)
      have hK12 : K ≤ 12 := by
        rcases Nat.lt_or_ge 12 K with h | h
        · have := hK 12 h; omega
        · exact h
      have hs := sort_any hown hraw0 (by omega)
      have hsl : (srt (rawL n K)).length = (rawL n K).length := List.length_mergeSort _
      have hz := hB.size
      have HS := Lib.hid hs; have HE := Lib.hid hke; have HL := Lib.hid hsl; have HLR := Lib.hid hlen; have HLK := Lib.hid hlK
      clear hs hke hsl hlen hK hP hlK
      generalize hR : rawL n K = R at *
      generalize 2 ^ K = pw at *
      go_wp2_with fail
      refine HS.out.mono ?_
      rintro _ w2 ⟨rfl, hown2, hg2⟩
      have hB2 : Below w.heap.size w w2 := hB.grown hg2 hz fun r e => (hown.lt r e).1
      have hl2 := HL.out
      have hc := compact_any hown2 (by rw [hl2]; exact hraw0) (by rw [hl2]; have := HLR.out; omega) (compact_le _)
      rw [show ((List.mergeSort R fun x y => decide (x ≤ y)).length = R.length) from HL.out] at hc
      rw [show Lib.compact (List.mergeSort R fun x y => decide (x ≤ y)) = keptL n from HE.out] at hc
      have HC := Lib.hid hc
      clear hc hl2 HS
      go_wp2_with fail
      refine HC.out.mono ?_
      rintro _ w3 ⟨rfl, hown3, hg3⟩
      have hz2 := hB2.size
      have hlt2 : ∀ r, (Value.slice p R.length c).ownBlock = some r → w.heap.size ≤ r := fun r e => by
        have := hown2.lt r (by simpa [Value.ownBlock] using e)
        exact this.1
      have hB3 : Below w.heap.size w w3 := hB2.grown hg3 hz2 hlt2
      go_wp2_with fail
      go_ret
      exact ⟨p, c, rfl, hown3, hB3⟩
end Go.Proofs.Ytcmmdfhnfkmjnaa
