/-
  The plain laws of the ways through a list of marks, in plain Lean.
-/
import Derived.Test.YtdnheoelmcmbmaaParts
namespace Go.Proofs.Ytdnheoelmcmbmaa

theorem chk_same {n : Nat} {i how : Int} (h : chk n i how = 0) {j : Nat} (hj : j < n) : chk n j how = 0 := by
  obtain ⟨a, b, c, d, e⟩ := chk_zero h
  exact chk_of (by omega) (by omega) c d e

/-- Where Last tells none, or a place from which Next comes here or ahead of here. -/
theorem last_next {l : List Mk} {n : Nat} {how : Int} (h : chk l.length n how = 0) :
    lastM l n how = (0, false, 0) ∨ ∃ a k : Nat, a < n ∧ a < l.length ∧ k ≤ n ∧ lastM l n how = ((a : Int), true, 0) ∧ nextM l a how = ((k : Int), true, 0) := by
  have hn := chk_zero h
  cases e : lastBelow (fun k => reachAt l how k n) n with
  | none => exact .inl (by unfold lastM; rw [Int.toNat_natCast, e]; simp [found, h])
  | some a =>
    obtain ⟨ha, hr, -⟩ := lastBelow_eq e
    refine .inr ?_
    have hc := chk_same h (j := a) (by omega)
    cases f : firstFrom (reachAt l how a) (a + 1) (l.length - (a + 1)) with
    | none =>
      have := firstFrom_eq_none f n (by omega) (by omega)
      rw [this] at hr; cases hr
    | some k =>
      obtain ⟨h1, h2, h3, h4⟩ := firstFrom_eq f
      have hk : k ≤ n := by
        rcases Nat.lt_or_ge n k with h5 | h5
        · have := h4 n (by omega) h5
          rw [this] at hr; cases hr
        · exact h5
      exact ⟨a, k, ha, by omega, hk, by unfold lastM; rw [Int.toNat_natCast, e]; simp [found, h], by unfold nextM; rw [Int.toNat_natCast, f]; simp [found, hc]⟩

theorem next_last {l : List Mk} {n : Nat} {how : Int} (h : chk l.length n how = 0) :
    nextM l n how = (0, false, 0) ∨ ∃ b k : Nat, n < b ∧ b < l.length ∧ n ≤ k ∧ k < b ∧ nextM l n how = ((b : Int), true, 0) ∧ lastM l b how = ((k : Int), true, 0) := by
  have hn := chk_zero h
  cases e : firstFrom (reachAt l how n) (n + 1) (l.length - (n + 1)) with
  | none => exact .inl (by unfold nextM; rw [Int.toNat_natCast, e]; simp [found, h])
  | some b =>
    obtain ⟨h1, h2, h3, h4⟩ := firstFrom_eq e
    refine .inr ?_
    have hc := chk_same h (j := b) (by omega)
    cases f : lastBelow (fun k => reachAt l how k b) b with
    | none =>
      have := lastBelow_eq_none f n (by omega)
      rw [this] at h3; cases h3
    | some k =>
      obtain ⟨hk, hr, hx⟩ := lastBelow_eq f
      have hk2 : n ≤ k := by
        rcases Nat.lt_or_ge k n with h5 | h5
        · have := hx n h5 (by omega)
          rw [this] at h3; cases h3
        · exact h5
      exact ⟨b, k, by omega, by omega, hk2, hk, by unfold nextM; rw [Int.toNat_natCast, e]; simp [found, h], by unfold lastM; rw [Int.toNat_natCast, f]; simp [found, hc]⟩

/-! WHO GOES OUT GOES OVER, WHO GOES OVER STEPS -/

theorem nextM_cases {l : List Mk} {n : Nat} {how : Int} (h : chk l.length n how = 0) :
    (nextM l n how = (0, false, 0) ∧ ∀ j, n < j → j < l.length → reachAt l how n j = false) ∨
    ∃ b : Nat, n < b ∧ b < l.length ∧ nextM l n how = ((b : Int), true, 0) ∧ reachAt l how n b = true ∧ ∀ j, n < j → j < b → reachAt l how n j = false := by
  have hn := chk_zero h
  cases e : firstFrom (reachAt l how n) (n + 1) (l.length - (n + 1)) with
  | none => exact .inl ⟨by unfold nextM; rw [Int.toNat_natCast, e]; simp [found, h], fun j h1 h2 => firstFrom_eq_none e j (by omega) (by omega)⟩
  | some b =>
    obtain ⟨h1, h2, h3, h4⟩ := firstFrom_eq e
    exact .inr ⟨b, by omega, by omega, by unfold nextM; rw [Int.toNat_natCast, e]; simp [found, h], h3, fun j a b => h4 j (by omega) b⟩

theorem reach_weaker {l : List Mk} {i j : Nat} {h1 h2 : Int} (hr : reachAt l h1 i j = true) (hw : (h2 = 1) ∨ (h2 = 2 ∧ (h1 = 4 ∨ h1 = 3)) ∨ (h2 = 4 ∧ h1 = 3)) : reachAt l h2 i j = true := by
  unfold reachAt reachedB at *
  rcases hw with rfl | ⟨rfl, rfl | rfl⟩ | ⟨rfl, rfl⟩
  · simp
  · simp at *; omega
  · simp at *; omega
  · simp at *; omega

theorem reach_over {l : List Mk} {i j : Nat} (h : reachAt l 2 i j = true) : (l.getD j .z).d ≤ (l.getD i .z).d := by
  unfold reachAt reachedB at h; simp at *; omega
theorem reach_out {l : List Mk} {i j : Nat} (h : reachAt l 3 i j = true) : (l.getD j .z).d < (l.getD i .z).d := by
  unfold reachAt reachedB at h; simp at *; omega

/-- The way that asks for less: where the other one leads somewhere it does, too, and no farther. -/
theorem nextM_weaker {l : List Mk} {n : Nat} {h1 h2 : Int} (c1 : chk l.length n h1 = 0) (c2 : chk l.length n h2 = 0) (hw : (h2 = 1) ∨ (h2 = 2 ∧ (h1 = 4 ∨ h1 = 3)) ∨ (h2 = 4 ∧ h1 = 3)) {b : Nat}
    (hb : nextM l n h1 = ((b : Int), true, 0)) : ∃ a : Nat, n < a ∧ a < l.length ∧ a ≤ b ∧ nextM l n h2 = ((a : Int), true, 0) := by
  rcases nextM_cases c1 with ⟨h, -⟩ | ⟨b', hb1, hb2, hb3, hb4, hb5⟩
  · rw [h] at hb; simp at hb
  · rw [hb3] at hb
    obtain rfl : b' = b := by simp at hb; omega
    have hr := reach_weaker hb4 hw
    rcases nextM_cases c2 with ⟨-, h⟩ | ⟨a, ha1, ha2, ha3, ha4, ha5⟩
    · rw [h b' hb1 hb2] at hr; cases hr
    · refine ⟨a, ha1, ha2, ?_, ha3⟩
      rcases Nat.lt_or_ge b' a with h5 | h5
      · rw [ha5 b' hb1 h5] at hr; cases hr
      · exact h5

theorem next_step {l : List Mk} {n : Nat} (c : chk l.length n 1 = 0) : (n + 1 < l.length ∧ nextM l n 1 = (((n + 1 : Nat) : Int), true, 0)) ∨ (¬ n + 1 < l.length ∧ nextM l n 1 = (0, false, 0)) := by
  have hn := chk_zero c
  by_cases h : n + 1 < l.length
  · exact .inl ⟨h, nextM_some c (Nat.le_refl _) h (fun j a b => by omega) (by unfold reachAt reachedB; simp)⟩
  · exact .inr ⟨h, nextM_none c (fun j a b => by omega)⟩

theorem chk_how {n : Nat} {i h1 : Int} (h2 : Int) (h : chk n i h1 = 0) (a : 1 ≤ h2) (b : h2 ≤ 4) : chk n i h2 = 0 := by
  obtain ⟨c, d, e, -, -⟩ := chk_zero h
  exact chk_of c d e a b

/-- All that WalkWays asks, where the place is one: four ways. -/
theorem ways {l : List Mk} {n : Nat} (c : chk l.length n 1 = 0) :
    (nextM l n 1 = (0, false, 0) ∧ ¬ n + 1 < l.length ∧ nextM l n 2 = (0, false, 0) ∧ nextM l n 4 = (0, false, 0) ∧ nextM l n 3 = (0, false, 0)) ∨
    (nextM l n 1 = (((n + 1 : Nat) : Int), true, 0) ∧ n + 1 < l.length ∧
      ((nextM l n 2 = (0, false, 0) ∧ nextM l n 4 = (0, false, 0) ∧ nextM l n 3 = (0, false, 0)) ∨
       ∃ a : Nat, n + 1 ≤ a ∧ a < l.length ∧ nextM l n 2 = ((a : Int), true, 0) ∧ (l.getD a .z).d ≤ (l.getD n .z).d ∧
        ((nextM l n 4 = (0, false, 0) ∧ nextM l n 3 = (0, false, 0)) ∨
         ∃ b : Nat, a ≤ b ∧ b < l.length ∧ nextM l n 4 = ((b : Int), true, 0) ∧
          (nextM l n 3 = (0, false, 0) ∨ ∃ o : Nat, b ≤ o ∧ o < l.length ∧ nextM l n 3 = ((o : Int), true, 0) ∧ (l.getD o .z).d < (l.getD n .z).d)))) := by
  have c2 := chk_how 2 c (by omega) (by omega)
  have c3 := chk_how 3 c (by omega) (by omega)
  have c4 := chk_how 4 c (by omega) (by omega)
  have none_of : ∀ {h1 h2 : Int}, chk l.length n h1 = 0 → chk l.length n h2 = 0 → ((h2 = 1) ∨ (h2 = 2 ∧ (h1 = 4 ∨ h1 = 3)) ∨ (h2 = 4 ∧ h1 = 3)) → nextM l n h2 = (0, false, 0) → nextM l n h1 = (0, false, 0) := by
    intro h1 h2 d1 d2 hw he
    rcases nextM_cases d1 with ⟨h, -⟩ | ⟨b, -, -, hb, -, -⟩
    · exact h
    · obtain ⟨a, -, -, -, ha⟩ := nextM_weaker d1 d2 hw hb
      rw [ha] at he; simp at he
  rcases next_step c with ⟨h1, e1⟩ | ⟨h1, e1⟩
  · refine .inr ⟨e1, h1, ?_⟩
    rcases nextM_cases c2 with ⟨e2, -⟩ | ⟨a, ha1, ha2, e2, ha3, ha4⟩
    · exact .inl ⟨e2, none_of c4 c2 (by omega) e2, none_of c3 c2 (by omega) e2⟩
    · refine .inr ⟨a, by omega, ha2, e2, reach_over ha3, ?_⟩
      rcases nextM_cases c4 with ⟨e4, -⟩ | ⟨b, hb1, hb2, e4, hb3, hb4⟩
      · exact .inl ⟨e4, none_of c3 c4 (by omega) e4⟩
      · obtain ⟨a', -, -, hab, ea⟩ := nextM_weaker c4 c2 (by omega) e4
        obtain rfl : a' = a := by rw [ea] at e2; simp at e2; omega
        refine .inr ⟨b, hab, hb2, e4, ?_⟩
        rcases nextM_cases c3 with ⟨e3, -⟩ | ⟨o, ho1, ho2, e3, ho3, ho4⟩
        · exact .inl e3
        · obtain ⟨b', -, -, hbo, eb⟩ := nextM_weaker c3 c4 (by omega) e3
          obtain rfl : b' = b := by rw [eb] at e4; simp at e4; omega
          exact .inr ⟨o, hbo, ho2, e3, reach_out ho3⟩
  · exact .inl ⟨e1, h1, none_of c2 c (by omega) e1, none_of c4 c (by omega) e1, none_of c3 c (by omega) e1⟩

end Go.Proofs.Ytdnheoelmcmbmaa
