/-
  The law of SchedEach.
-/
import Derived.Test.YtbnmpagjfihjjaaNth
import Derived.Test.YtbnmpagjfihjjaaRank
namespace Go.Proofs.Ytbnmpagjfihjjaa
open Go.RowKit

theorem each_one {l : List Int} {n : Int} (h : (nthM l n).2 = 0) : rankM l (nthM l n).1 = (n, 0) ∧ 0 ≤ n ∧ ∃ c : Int, cntR l = (c, 0) ∧ n < c ∧ c ≤ 8916100448256 ∧ (nthM l n).1.length ≤ 12 ∧
    ((n + 1 < c ∧ ∃ b, nthM l (n + 1) = (b, 0) ∧ b.length = (nthM l n).1.length ∧ ∃ i, i < (nthM l n).1.length ∧ (∀ j, j < i → (nthM l n).1.getD j 0 = b.getD j 0) ∧ (nthM l n).1.getD i 0 < b.getD i 0) ∨ (¬ n + 1 < c ∧ nthM l (n + 1) = ([], 1))) := by
  by_cases hr : rightM l = 0
  · obtain ⟨ps, rfl, h8, h12⟩ := rightM_ok hr
    have hmx := cM_max h12
    by_cases hn : 0 ≤ n ∧ n < (cM 0 ps : Nat)
    · have e1 : nthM (nl ps) n = (nth ps.sum ps n.toNat, 0) := by
        unfold nthM
        rw [if_pos hr, nl_toNat, if_pos hn]
      obtain ⟨k, rfl⟩ := Int.eq_ofNat_of_zero_le hn.1
      have hk : k < cM 0 ps := by omega
      rw [Int.toNat_natCast] at e1
      rw [e1]
      dsimp only
      refine ⟨?_, by omega, (cM 0 ps : Nat), ?_, by omega, by omega, by rw [nth_len]; exact h12, ?_⟩
      · unfold rankM
        rw [if_pos hr, nl_toNat, rnk_nth ps.sum ps k rfl hk]
        rfl
      · unfold cntR
        rw [if_pos hr, nl_toNat]
      · by_cases h2 : (k : Int) + 1 < (cM 0 ps : Nat)
        · left
          refine ⟨h2, nth ps.sum ps (k + 1), ?_, by rw [nth_len, nth_len], ?_⟩
          · unfold nthM
            rw [if_pos hr, nl_toNat, if_pos ⟨by omega, h2⟩]
            congr 2
          · rw [nth_len]
            exact nth_lex ps.sum ps k (k + 1) rfl (by omega) (by omega)
        · right
          refine ⟨h2, ?_⟩
          unfold nthM
          rw [if_pos hr, nl_toNat, if_neg (fun h => h2 h.2)]
    · unfold nthM at h
      rw [if_pos hr, nl_toNat, if_neg hn] at h
      exact absurd h (by simp)
  · unfold nthM at h
    rw [if_neg hr] at h
    exact absurd h hr
theorem each_two {l v : List Int} (h : (rankM l v).2 ≠ 0) : (rankM l v).1 = 0 := by
  unfold rankM at *
  split
  · next hr =>
    rw [if_pos hr] at h
    cases hk : rnk (l.map Int.toNat) v with
    | none => rfl
    | some n => rw [hk] at h; exact absurd rfl h
  · rfl
theorem each_three {l v : List Int} (h : (rankM l v).2 = 0) : nthM l (rankM l v).1 = (v, 0) := by
  unfold rankM at *
  split at h
  · next hr =>
    rw [if_pos hr]
    obtain ⟨ps, rfl, h8, h12⟩ := rightM_ok hr
    rw [nl_toNat] at *
    cases hk : rnk ps v with
    | none => rw [hk] at h; exact absurd h (by decide)
    | some n =>
      obtain ⟨h1, h2⟩ := nth_rnk v ps n hk
      unfold nthM rankV
      dsimp only
      rw [if_pos hr, nl_toNat, if_pos ⟨by omega, by omega⟩, Int.toNat_natCast, h2]
  · next hr => exact absurd h hr
end Go.Proofs.Ytbnmpagjfihjjaa
