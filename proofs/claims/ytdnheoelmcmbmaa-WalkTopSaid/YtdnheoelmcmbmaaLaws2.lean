/-
  The plain law of the top of a call.
-/
import Derived.Test.YtdnheoelmcmbmaaLaws
namespace Go.Proofs.Ytdnheoelmcmbmaa

/-- What the loop of Top tells. -/
structure IsTop (l : List Mk) (n t : Nat) : Prop where
  le : t ≤ n
  same : (l.getD t .z).t = (l.getD n .z).t
  deep : ∀ x, t ≤ x → x ≤ n → (l.getD x .z).t = (l.getD n .z).t → (l.getD n .z).d ≤ (l.getD x .z).d
  ahead : (∀ x, x < t → (l.getD x .z).t ≠ (l.getD n .z).t) ∨ ∃ s, s < t ∧ (l.getD s .z).t = (l.getD n .z).t ∧ (l.getD s .z).d < (l.getD n .z).d ∧ ∀ x, s < x → x < t → (l.getD x .z).t ≠ (l.getD n .z).t

theorem topLoop_is {l : List Mk} {n : Nat} : ∀ k top, k ≤ top → top ≤ n → (l.getD top .z).t = (l.getD n .z).t → (∀ x, k ≤ x → x ≤ n → (l.getD x .z).t = (l.getD n .z).t → (l.getD n .z).d ≤ (l.getD x .z).d) →
    (∀ x, k ≤ x → x < top → (l.getD x .z).t ≠ (l.getD n .z).t) → IsTop l n (topLoop l n k top) := by
  intro k
  induction k with
  | zero =>
    intro top h1 h2 h3 h4 h5
    exact ⟨h2, h3, fun x a b => h4 x (by omega) b, .inl fun x hx => h5 x (by omega) hx⟩
  | succ k ih =>
    intro top h1 h2 h3 h4 h5
    by_cases hs : (l.getD k .z).t = (l.getD n .z).t
    · by_cases hd : (l.getD k .z).d < (l.getD n .z).d
      · rw [topLoop_succ_stop hs hd]
        exact ⟨h2, h3, fun x a b => h4 x (by omega) b, .inr ⟨k, by omega, hs, hd, fun x a b => h5 x (by omega) b⟩⟩
      · rw [topLoop_succ_on hs hd]
        refine ih k (Nat.le_refl _) (by omega) hs (fun x a b c => ?_) (fun x a b => by omega)
        by_cases e : x = k
        · subst e; omega
        · exact h4 x (by omega) b c
    · rw [topLoop_succ_other hs]
      refine ih top (by omega) h2 h3 (fun x a b c => ?_) (fun x a b => ?_)
      · by_cases e : x = k
        · subst e; exact absurd c hs
        · exact h4 x (by omega) b c
      · by_cases e : x = k
        · subst e; exact hs
        · exact h5 x (by omega) b

theorem top_is_top {l : List Mk} {n : Nat} : IsTop l n (topLoop l n n n) :=
  topLoop_is n n (Nat.le_refl _) (Nat.le_refl _) rfl (fun x a b _ => by
    have e : x = n := by omega
    rw [e]; exact Int.le_refl _) (fun x a b => by omega)

/-- The top of the top, where it is as deep, is itself. -/
theorem top_top {l : List Mk} {n t : Nat} (h : IsTop l n t) (hd : (l.getD t .z).d = (l.getD n .z).d) : topLoop l t t t = t := by
  have h2 := top_is_top (l := l) (n := t)
  rcases Nat.lt_or_ge (topLoop l t t t) t with hlt | hge
  · exfalso
    generalize topLoop l t t t = u at *
    have hs : (l.getD u .z).t = (l.getD n .z).t := h2.same.trans h.same
    rcases h.ahead with ha | ⟨s, h3, h4, h5, h6⟩
    · exact ha u hlt hs
    · rcases Nat.lt_or_ge s u with h7 | h7
      · exact h6 u h7 hlt hs
      · have := h2.deep s h7 (by omega) (h4.trans h.same.symm)
        omega
  · have := h2.le; omega

/-- Who goes out from there goes out from here, to the same place. -/
theorem top_out {l : List Mk} {n t : Nat} (h : IsTop l n t) (hd : (l.getD t .z).d = (l.getD n .z).d) (c : chk l.length n 3 = 0) : nextM l n 3 = nextM l t 3 := by
  have hn := chk_zero c
  have hle := h.le
  have ct := chk_same c (j := t) (by omega)
  have reach : ∀ j, reachAt l 3 n j = reachAt l 3 t j := by
    intro j; unfold reachAt reachedB; rw [h.same, hd]; rfl
  rcases nextM_cases c with ⟨e, h1⟩ | ⟨b, h1, h2, e, h3, h4⟩
  · rw [e]
    refine (nextM_none ct fun j a b => ?_).symm
    rw [← reach]
    rcases Nat.lt_or_ge n j with h5 | h5
    · exact h1 j h5 b
    · cases hr : reachAt l 3 n j with
      | false => rfl
      | true =>
        have h6 := reach_out hr
        have h7 : (l.getD n .z).t = (l.getD j .z).t := by unfold reachAt reachedB at hr; simp at hr; exact hr.1
        have := h.deep j (by omega) h5 h7.symm
        omega
  · rw [e]
    refine (nextM_some ct (by omega) h2 (fun j a b => ?_) (by rw [← reach]; exact h3)).symm
    rw [← reach]
    rcases Nat.lt_or_ge n j with h5 | h5
    · exact h4 j h5 b
    · cases hr : reachAt l 3 n j with
      | false => rfl
      | true =>
        have h6 := reach_out hr
        have h7 : (l.getD n .z).t = (l.getD j .z).t := by unfold reachAt reachedB at hr; simp at hr; exact hr.1
        have := h.deep j (by omega) h5 h7.symm
        omega

end Go.Proofs.Ytdnheoelmcmbmaa
