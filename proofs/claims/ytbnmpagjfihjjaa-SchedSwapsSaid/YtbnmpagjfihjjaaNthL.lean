/-
  The plain law of Nth and Rank.
-/
import Derived.Test.YtbnmpagjfihjjaaCnt2
namespace Go.Proofs.Ytbnmpagjfihjjaa

/-- The thread that number n begins with. -/
def IsF (ps : List Nat) (n k : Nat) : Prop := k < ps.length ∧ pre ps k ≤ n ∧ n < pre ps (k + 1)
theorem isF_uniq {ps : List Nat} {n k j : Nat} (h : IsF ps n k) (h2 : IsF ps n j) : k = j := by
  obtain ⟨-, a1, a2⟩ := h
  obtain ⟨-, b1, b2⟩ := h2
  rcases Nat.lt_trichotomy k j with e | e | e
  · have := pre_mono ps (show k + 1 ≤ j from e); omega
  · exact e
  · have := pre_mono ps (show j + 1 ≤ k from e); omega
theorem isF_exists {ps : List Nat} {n : Nat} (h0 : 0 < ps.sum) (hn : n < cM 0 ps) : ∃ k, IsF ps n k := by
  rw [← pre_all h0] at hn
  have key : ∀ m, m ≤ ps.length → n < pre ps m → ∃ k, IsF ps n k := fun m => by
    induction m with
    | zero => intro _ h; simp [pre] at h
    | succ m ih =>
      intro hm h
      by_cases h2 : n < pre ps m
      · exact ih (by omega) h2
      · exact ⟨m, by omega, by omega, h⟩
  exact key _ (Nat.le_refl _) hn
def fk (ps : List Nat) (n : Nat) : Nat := ((List.range ps.length).find? fun k => decide (n < pre ps (k + 1))).getD 0
theorem fk_is {ps : List Nat} {n : Nat} (h0 : 0 < ps.sum) (hn : n < cM 0 ps) : IsF ps n (fk ps n) := by
  obtain ⟨k, hk⟩ := isF_exists h0 hn
  have hf : fk ps n = k := by
    unfold fk
    have : (List.range ps.length).find? (fun k => decide (n < pre ps (k + 1))) = some k := by
      rw [List.find?_range_eq_some]
      refine ⟨by simpa using hk.2.2, by simpa using hk.1, fun j hj => ?_⟩
      have := pre_mono ps (show j + 1 ≤ k from hj)
      have := hk.2.1
      simp; omega
    rw [this]; rfl
  rw [hf]; exact hk
theorem isF_pos {ps : List Nat} {n k : Nat} (h : IsF ps n k) : 0 < ps.getD k 0 ∧ n - pre ps k < cM 0 (dec ps k) := by
  obtain ⟨h1, h2, h3⟩ := h
  rw [pre] at h3
  unfold wo at h3
  split at h3
  · omega
  · constructor <;> omega
def nth : Nat → List Nat → Nat → List Int
  | 0, _, _ => []
  | f + 1, ps, n => (fk ps n : Int) :: nth f (dec ps (fk ps n)) (n - pre ps (fk ps n))
theorem nth_len : ∀ (f : Nat) (ps : List Nat) (n : Nat), (nth f ps n).length = f
  | 0, _, _ => rfl
  | f + 1, ps, n => by rw [nth, List.length_cons, nth_len f]
/-- One step. -/
theorem nth_step {ps : List Nat} {n k : Nat} (h0 : 0 < ps.sum) (hk : IsF ps n k) : nth ps.sum ps n = (k : Int) :: nth (dec ps k).sum (dec ps k) (n - pre ps k) := by
  have hn : n < cM 0 ps := by
    rw [← pre_all h0]
    have := pre_mono ps (show k + 1 ≤ ps.length from hk.1)
    have := hk.2.2
    omega
  have hf := isF_uniq (fk_is h0 hn) hk
  have hd := dec_sum (isF_pos hk).1
  rw [← hd, nth, hf]
theorem nth_zero {ps : List Nat} {n : Nat} (h0 : ps.sum = 0) : nth ps.sum ps n = [] := by rw [h0]; rfl

def rnk : List Nat → List Int → Option Nat
  | ps, [] => if ps.sum = 0 then some 0 else none
  | ps, k :: l => if 0 ≤ k ∧ k < ps.length ∧ 0 < ps.getD k.toNat 0 then (rnk (dec ps k.toNat) l).map (pre ps k.toNat + ·) else none
theorem rnk_nth : ∀ (f : Nat) (ps : List Nat) (n : Nat), ps.sum = f → n < cM 0 ps → rnk ps (nth ps.sum ps n) = some n
  | 0, ps, n, hf, hn => by
    rw [nth_zero hf, rnk, if_pos hf]
    have : cM 0 ps = 1 := by
      have h1 := cM_zero ps
      rw [hf] at h1
      have h2 := cM_pos ps
      have h3 := pf_pos ps
      have h4 : cM 0 ps * pf ps = 1 := h1
      exact Nat.eq_one_of_mul_eq_one_right h4
    rw [show n = 0 from by omega]
  | f + 1, ps, n, hf, hn => by
    have h0 : 0 < ps.sum := by omega
    have hk := fk_is h0 hn
    obtain ⟨hp, hn2⟩ := isF_pos hk
    have hd := dec_sum hp
    rw [nth_step h0 hk, rnk, Int.toNat_natCast, if_pos ⟨by omega, by have := hk.1; omega, hp⟩, rnk_nth f (dec ps (fk ps n)) _ (by omega) hn2]
    simp only [Option.map_some, Option.some.injEq]
    have := hk.2.1
    omega
theorem nth_rnk : ∀ (l : List Int) (ps : List Nat) (n : Nat), rnk ps l = some n → n < cM 0 ps ∧ nth ps.sum ps n = l
  | [], ps, n, h => by
    rw [rnk] at h
    split at h
    · next h0 =>
      obtain rfl : 0 = n := by simpa using h
      exact ⟨cM_pos ps, nth_zero h0⟩
    · cases h
  | k :: l, ps, n, h => by
    rw [rnk] at h
    split at h
    · next hc =>
      obtain ⟨h1, h2, h3⟩ := hc
      obtain ⟨q, rfl⟩ := Int.eq_ofNat_of_zero_le h1
      rw [Int.toNat_natCast] at h h3
      cases hr : rnk (dec ps q) l with
      | none => rw [hr] at h; cases h
      | some m =>
        rw [hr] at h
        obtain rfl : pre ps q + m = n := by simpa using h
        obtain ⟨i1, i2⟩ := nth_rnk l (dec ps q) m hr
        have hw : wo ps q = cM 0 (dec ps q) := by unfold wo; rw [if_neg (by omega)]
        have hd := dec_sum h3
        have h0 : 0 < ps.sum := by omega
        have hF : IsF ps (pre ps q + m) q := ⟨by omega, by omega, by rw [pre, hw]; omega⟩
        have hlt : pre ps q + m < cM 0 ps := by
          rw [← pre_all h0]
          have := pre_mono ps (show q + 1 ≤ ps.length from hF.1)
          have := hF.2.2
          omega
        refine ⟨hlt, ?_⟩
        rw [nth_step h0 hF, Nat.add_sub_cancel_left, i2]
    · cases h
/-- The greater number's one stands behind in the order of dictionaries. -/
theorem nth_lex : ∀ (f : Nat) (ps : List Nat) (n m : Nat), ps.sum = f → n < m → m < cM 0 ps → ∃ i, i < f ∧ (∀ j, j < i → (nth ps.sum ps n).getD j 0 = (nth ps.sum ps m).getD j 0) ∧ (nth ps.sum ps n).getD i 0 < (nth ps.sum ps m).getD i 0
  | 0, ps, n, m, hf, h1, h2 => by
    have h3 := cM_zero ps
    rw [hf] at h3
    have h4 : cM 0 ps * pf ps = 1 := h3
    have h5 := Nat.eq_one_of_mul_eq_one_right h4
    omega
  | f + 1, ps, n, m, hf, h1, h2 => by
    have h0 : 0 < ps.sum := by omega
    have hk := fk_is h0 (show n < cM 0 ps by omega)
    have hj := fk_is h0 h2
    rw [nth_step h0 hk, nth_step h0 hj]
    by_cases e : fk ps n = fk ps m
    · rw [e] at hk ⊢
      obtain ⟨hp, hm2⟩ := isF_pos hj
      have hd := dec_sum hp
      obtain ⟨i, hi, i1, i2⟩ := nth_lex f (dec ps (fk ps m)) (n - pre ps (fk ps m)) (m - pre ps (fk ps m)) (by omega) (by have := hk.2.1; omega) hm2
      refine ⟨i + 1, by omega, fun j hj => ?_, by simpa using i2⟩
      cases j with
      | zero => rfl
      | succ j => simpa using i1 j (by omega)
    · refine ⟨0, by omega, fun j hj => by omega, ?_⟩
      simp only [List.getD_cons_zero]
      rcases Nat.lt_trichotomy (fk ps n) (fk ps m) with h | h | h
      · omega
      · exact absurd h e
      · have := pre_mono ps (show fk ps m + 1 ≤ fk ps n from h)
        have := hj.2.2
        have := hk.2.1
        omega
theorem cM_max {ps : List Nat} (h : ps.sum ≤ 12) : cM 0 ps ≤ 8916100448256 := by
  have h1 := cM_le ps 0 (by omega)
  exact Nat.le_trans h1 (Nat.le_trans (Nat.pow_le_pow_right (by omega) h) (by decide))
end Go.Proofs.Ytbnmpagjfihjjaa
