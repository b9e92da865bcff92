/-
  What hangs on what (as in the package slice).
-/
import Derived.Test.YtoillodfabdeeaaBegin
namespace Go.Proofs.Ytoillodfabdeeaa
open Go.RowKit

/-- The set that back computes, out of the numbers alone. -/
def stepS (U : Nat → List Int) (s : List Bool) (k : Nat) : List Bool := if s.getD k false then setAll s (U k) else s
def goS (U : Nat → List Int) (s : List Bool) : Nat → List Bool
  | 0 => s
  | k + 1 => goS U (stepS U s k) k
def backS (U : Nat → List Int) (n i : Nat) : List Bool := goS U ((List.replicate n false).set i true) (i + 1)
theorem goS_eq {ps : List Pt} {U : Nat → List Int} {k : Nat} (h : ∀ j, j < k → usesAt ps j = U j) (s : List Bool) : backGo ps s k = goS U s k := by
  induction k generalizing s with
  | zero => rfl
  | succ k ih =>
    unfold backGo goS
    rw [ih (fun j hj => h j (by omega))]
    congr 1
    unfold backStep stepS
    rw [h k (by omega)]
theorem backS_eq {ps : List Pt} {U : Nat → List Int} {n i : Nat} (hn : ps.length = n) (h : ∀ j, j ≤ i → usesAt ps j = U j) : backL ps i = backS U n i := by
  unfold backL backS
  rw [hn, goS_eq (fun j hj => h j (by omega))]
/-- One goes on from i by what is used. -/
inductive Reach (U : Nat → List Int) (i : Nat) : Nat → Prop
  | refl : Reach U i i
  | step {m k : Nat} : Reach U i m → (k : Int) ∈ U m → Reach U i k
def OkU (U : Nat → List Int) (n : Nat) : Prop := ∀ i, i < n → ∀ y ∈ U i, 0 ≤ y ∧ y < (i : Int)

section
variable {U : Nat → List Int} {n i : Nat}
theorem Reach.le (hO : OkU U n) (hi : i < n) {k : Nat} (h : Reach U i k) : k ≤ i := by
  induction h with
  | refl => exact Nat.le_refl _
  | step _ hk ih => have := hO _ (by omega) _ hk; omega
theorem Reach.trans {a b c : Nat} (h : Reach U a b) (h' : Reach U b c) : Reach U a c := by
  induction h' with
  | refl => exact h
  | step _ hk ih => exact ih.step hk
theorem Reach.head {a b : Nat} (h : Reach U a b) : a = b ∨ ∃ y : Nat, (y : Int) ∈ U a ∧ Reach U y b := by
  induction h with
  | refl => exact .inl rfl
  | @step m k h' hk ih =>
    rcases ih with rfl | ⟨y, hy, hr⟩
    · exact .inr ⟨k, hk, .refl⟩
    · exact .inr ⟨y, hy, hr.step hk⟩
theorem Reach.last {a b : Nat} (h : Reach U a b) : a = b ∨ ∃ m, Reach U a m ∧ (b : Int) ∈ U m := by
  cases h with
  | refl => exact .inl rfl
  | step h' hk => exact .inr ⟨_, h', hk⟩

theorem setAll_get {us : List Int} : ∀ {s : List Bool} {x : Nat}, x < s.length → (∀ y ∈ us, 0 ≤ y) → (setAll s us).getD x false = (s.getD x false || decide ((x : Int) ∈ us)) := by
  induction us with
  | nil => intro s x _ _; simp [setAll]
  | cons y us ih =>
    intro s x hx hy
    have h0 := hy y (by simp)
    have e : setAll s (y :: us) = setAll (s.set y.toNat true) us := rfl
    rw [e, ih (by simpa using hx) (fun z hz => hy z (by simp [hz]))]
    by_cases hxy : (x : Int) = y
    · have : y.toNat = x := by omega
      rw [this, List.getD_eq_getElem?_getD, List.getElem?_set_self hx]
      simp [hxy]
    · have : y.toNat ≠ x := by omega
      rw [List.getD_eq_getElem?_getD, List.getElem?_set_ne this, ← List.getD_eq_getElem?_getD]
      simp [hxy]
theorem stepS_len (s : List Bool) (k : Nat) : (stepS U s k).length = s.length := by unfold stepS; split <;> simp
theorem goS_len (s : List Bool) (k : Nat) : (goS U s k).length = s.length := by
  induction k generalizing s with
  | zero => rfl
  | succ k ih => unfold goS; rw [ih, stepS_len]
theorem backS_len : (backS U n i).length = n := by unfold backS; rw [goS_len]; simp

theorem goS_spec (hO : OkU U n) : ∀ (k : Nat) (s : List Bool), k ≤ n → s.length = n → (∀ x, s.getD x false = true → Reach U i x) → s.getD i false = true → (∀ m, k ≤ m → m < n → s.getD m false = true → ∀ y ∈ U m, s.getD y.toNat false = true) →
    (∀ x, (goS U s k).getD x false = true → Reach U i x) ∧ (goS U s k).getD i false = true ∧ (∀ m, m < n → (goS U s k).getD m false = true → ∀ y ∈ U m, (goS U s k).getD y.toNat false = true) := by
  intro k
  induction k with
  | zero => intro s _ hl h1 h2 h3; exact ⟨h1, h2, fun m hm => h3 m (Nat.zero_le _) hm⟩
  | succ k ih =>
    intro s hk hl h1 h2 h3
    unfold goS
    refine ih (stepS U s k) (by omega) (by rw [stepS_len, hl]) ?_ ?_ ?_
    all_goals unfold stepS
    · intro x hx
      split at hx
      · next hs =>
        by_cases hxl : x < n
        · rw [setAll_get (by omega) (fun y hy => (hO k (by omega) y hy).1), Bool.or_eq_true] at hx
          rcases hx with hx | hx
          · exact h1 x hx
          · exact (h1 k hs).step (of_decide_eq_true hx)
        · rw [List.getD_eq_getElem?_getD, List.getElem?_eq_none (by simp; omega)] at hx
          cases hx
      · exact h1 x hx
    · split
      · by_cases hil : i < n
        · rw [setAll_get (by omega) (fun y hy => (hO k (by omega) y hy).1), h2]; rfl
        · rw [List.getD_eq_getElem?_getD, List.getElem?_eq_none (by omega)] at h2; cases h2
      · exact h2
    · intro m hm hmn hs y hy
      have hyr := hO m hmn y hy
      split at hs
      · next hsk =>
        rw [if_pos hsk, setAll_get (by omega) (fun z hz => (hO k (by omega) z hz).1), Bool.or_eq_true]
        by_cases e : m = k
        · subst e
          exact .inr (decide_eq_true (by rw [Int.toNat_of_nonneg hyr.1]; exact hy))
        · rw [setAll_get (by omega) (fun z hz => (hO k (by omega) z hz).1), Bool.or_eq_true] at hs
          rcases hs with hs | hs
          · exact .inl (h3 m (by omega) hmn hs y hy)
          · have := hO k (by omega) _ (of_decide_eq_true hs); omega
      · next hsk =>
        rw [if_neg hsk]
        by_cases e : m = k
        · subst e; exact absurd hs hsk
        · exact h3 m (by omega) hmn hs y hy

theorem backS_iff (hO : OkU U n) (hi : i < n) {x : Nat} : (backS U n i).getD x false = true ↔ Reach U i x := by
  have h0 : ∀ x, ((List.replicate n false).set i true).getD x false = true → x = i := by
    intro x hx
    by_cases e : i = x
    · exact e.symm
    · rw [List.getD_eq_getElem?_getD, List.getElem?_set_ne e, List.getElem?_replicate] at hx
      split at hx <;> cases hx
  obtain ⟨h1, h2, h3⟩ := goS_spec (i := i) hO (i + 1) ((List.replicate n false).set i true) (by omega) (by simp) (fun x hx => by rw [h0 x hx]; exact .refl)
    (by rw [List.getD_eq_getElem?_getD, List.getElem?_set_self (by simpa using hi)]; rfl) (fun m hm _ hs => by have := h0 m hs; omega)
  refine ⟨h1 x, fun h => ?_⟩
  induction h with
  | refl => exact h2
  | @step m k h' hk ih =>
    have hm := h'.le hO hi
    have := h3 m (by omega) ih _ hk
    rwa [Int.toNat_natCast] at this
end

theorem okU_of {ps : List Pt} (h : OkD ps) : OkU (usesAt ps) ps.length := fun i hi y hy => h.2 i hi y hy
theorem backL_iff {ps : List Pt} (h : OkD ps) {i x : Nat} (hi : i < ps.length) : (backL ps i).getD x false = true ↔ Reach (usesAt ps) i x := by
  rw [backS_eq rfl (fun j _ => rfl)]
  exact backS_iff (okU_of h) hi
/-! ### Lists of places -/
theorem mem_listedL {n : Nat} {ls : List (List Bool)} {x : Int} : x ∈ listedL n ls ↔ ∃ i : Nat, x = (i : Int) ∧ i < n ∧ ∀ l ∈ ls, l.getD i false = true := by
  unfold listedL
  rw [List.mem_map]
  constructor
  · rintro ⟨i, hi, rfl⟩
    rw [List.mem_filter, List.all_eq_true] at hi
    exact ⟨i, rfl, List.mem_range.1 hi.1, hi.2⟩
  · rintro ⟨i, rfl, hi, h⟩
    exact ⟨i, List.mem_filter.2 ⟨List.mem_range.2 hi, List.all_eq_true.2 h⟩, rfl⟩
theorem sorted_listedL (n : Nat) (ls : List (List Bool)) : (listedL n ls).Pairwise (· < ·) := by
  unfold listedL
  rw [List.pairwise_map]
  refine List.Pairwise.filter _ ?_
  refine List.Pairwise.imp (R := (· < ·)) (fun h => by omega) ?_
  exact List.pairwise_lt_range
/-- The slice of i. -/
theorem back_mem {ps : List Pt} (h : OkD ps) {i : Nat} (hi : i < ps.length) {x : Int} : x ∈ listedL ps.length [backL ps i] ↔ ∃ k : Nat, x = (k : Int) ∧ Reach (usesAt ps) i k := by
  rw [mem_listedL]
  constructor
  · rintro ⟨k, rfl, hk, hl⟩
    exact ⟨k, rfl, (backL_iff h hi).1 (hl _ (by simp))⟩
  · rintro ⟨k, rfl, hr⟩
    refine ⟨k, rfl, ?_, fun l hl => ?_⟩
    · have := hr.le (okU_of h) hi; omega
    · obtain rfl := List.mem_singleton.1 hl; exact (backL_iff h hi).2 hr
end Go.Proofs.Ytoillodfabdeeaa
