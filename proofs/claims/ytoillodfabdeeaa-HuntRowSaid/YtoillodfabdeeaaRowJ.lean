/-
  The plain law of HuntRow.
-/
import Derived.Test.YtoillodfabdeeaaBegun
namespace Go.Proofs.Ytoillodfabdeeaa

/-- What stays while one asks: the suspects are lo, .., b; there are no more than 2 to the power of the asks that are left. -/
def RowJ (ps : List Pt) (c : Int) (d : Nat) (b : Int) (g : List Int) (m : Nat) : Prop :=
  ∃ lo : Int, 0 ≤ lo ∧ (∀ x, x ∈ suspP ps b.toNat g ↔ lo ≤ x ∧ x ≤ b) ∧ lo ≤ c ∧ c ≤ b ∧ m ≤ d ∧ (suspP ps b.toNat g).length ≤ 2 ^ (d - m)
theorem span_len {S : List Int} (hS : S.Pairwise (· < ·)) {lo b : Int} (h : ∀ x, x ∈ S ↔ lo ≤ x ∧ x ≤ b) (hle : lo ≤ b + 1) : (S.length : Int) = b + 1 - lo := by
  have e : S = (List.range (b + 1 - lo).toNat).map fun i : Nat => lo + (i : Int) := by
    refine rising_ext hS ?_ fun x => ?_
    · rw [List.pairwise_map]
      exact List.Pairwise.imp (R := (· < ·)) (fun h => by omega) List.pairwise_lt_range
    · rw [h, List.mem_map]
      constructor
      · intro hx
        exact ⟨(x - lo).toNat, List.mem_range.2 (by omega), by omega⟩
      · rintro ⟨i, hi, rfl⟩
        have := List.mem_range.1 hi
        omega
  rw [e]
  simp
  omega
theorem half_pow {s k : Nat} (h : s ≤ 2 ^ k) (h2 : 2 ≤ s) : 1 ≤ k ∧ s - s / 2 ≤ 2 ^ (k - 1) := by
  cases k with
  | zero => simp at h; omega
  | succ k =>
    rw [Nat.pow_succ] at h
    exact ⟨by omega, by rw [Nat.add_sub_cancel]; omega⟩

theorem row_goes {ps : List Pt} {n : Nat} (h : IsRow ps n) (hn : n ≤ 200) (c : Int) (d : Nat) : Goes ps (fun x => decide (c ≤ x)) (RowJ ps c d) := by
  have hO := row_ok h hn
  have hl := h.1
  have key : ∀ (k : Nat) g m, RowJ ps c d k g m → k < ps.length → 0 ≤ pickM ps k g → ∃ t : Nat, pickM ps k g = (t : Int) ∧
      (c ≤ t → RowJ ps c d t g (m + 1) ∧ (suspP ps t g).length < (suspP ps k g).length) ∧
      (¬ c ≤ t → RowJ ps c d k (g ++ [(t : Int)]) (m + 1) ∧ (suspP ps k (g ++ [(t : Int)])).length < (suspP ps k g).length) := by
    rintro k g m ⟨lo, hlo, hS, hc1, hc2, hmd, hpow⟩ hk h0
    rw [Int.toNat_natCast] at hS hpow
    obtain ⟨t, ht, htl, htk, hts, hmax⟩ := pick_law h0
    have htr := (hS t).1 hts
    have hks : (k : Int) ∈ suspP ps k g := (hS k).2 ⟨by omega, by omega⟩
    obtain ⟨l1, l2, l3, l4⟩ := lens_lt hO hk hks hts htk
    have hlen := span_len (susp_rising ps k g) hS (by omega)
    have hsum := susp_lens hO hk hts
    have hbt : ∀ x : Int, x ∈ Bk ps t ↔ 0 ≤ x ∧ x ≤ t := fun x => row_bk h hn (by omega)
    have hSt : ∀ x, x ∈ suspP ps t g ↔ lo ≤ x ∧ x ≤ t := fun x => by
      rw [susp_yes hO hk hts, List.mem_filter, hS, decide_eq_true_iff, hbt]; omega
    have hSn : ∀ x, x ∈ suspP ps k (g ++ [(t : Int)]) ↔ (t : Int) + 1 ≤ x ∧ x ≤ k := fun x => by
      rw [susp_no, List.mem_filter, hS, Bool.not_eq_true', decide_eq_false_iff_not, hbt]; omega
    have hpt := partN_eq hO hk hts
    -- one in the middle
    obtain ⟨x, hx⟩ : ∃ x : Nat, (x : Int) = lo + ((suspP ps k g).length / 2 : Nat) - 1 := ⟨(lo + ((suspP ps k g).length / 2 : Nat) - 1).toNat, by omega⟩
    have hxs : (x : Int) ∈ suspP ps k g := (hS x).2 (by omega)
    have hxm := hmax x hxs (by omega)
    have hpx := partN_eq hO hk hxs
    have hSx : ∀ y, y ∈ suspP ps x g ↔ lo ≤ y ∧ y ≤ x := fun y => by
      rw [susp_yes hO hk hxs, List.mem_filter, hS, decide_eq_true_iff, row_bk h hn (by omega)]; omega
    have hlx := span_len (susp_rising ps x g) hSx (by omega)
    unfold halfI at hxm
    rw [hpt, hpx] at hxm
    obtain ⟨hk1, hp2⟩ := half_pow hpow (by omega)
    have hd : d - (m + 1) = d - m - 1 := by omega
    refine ⟨t, ht, fun hct => ⟨⟨lo, hlo, by rw [Int.toNat_natCast]; exact hSt, hc1, hct, by omega, ?_⟩, l1⟩, fun hct => ⟨⟨t + 1, by omega, by rw [Int.toNat_natCast]; exact hSn, by omega, hc2, by omega, ?_⟩, l2⟩⟩
    · rw [Int.toNat_natCast, hd]; omega
    · rw [Int.toNat_natCast, hd]; omega
  refine ⟨?_, ?_⟩
  · rintro b g m hJ hb - h0 hp
    obtain ⟨k, rfl⟩ := Int.eq_ofNat_of_zero_le hb.1
    obtain ⟨t, ht, h1, -⟩ := key k g m hJ (by omega) h0
    rw [ht] at hp ⊢
    rw [Int.toNat_natCast, Int.toNat_natCast]
    exact h1 (of_decide_eq_true hp)
  · rintro b g m hJ hb - h0 hp
    obtain ⟨k, rfl⟩ := Int.eq_ofNat_of_zero_le hb.1
    obtain ⟨t, ht, -, h1⟩ := key k g m hJ (by omega) h0
    rw [ht] at hp ⊢
    rw [Int.toNat_natCast]
    exact h1 (of_decide_eq_false hp)
end Go.Proofs.Ytoillodfabdeeaa
