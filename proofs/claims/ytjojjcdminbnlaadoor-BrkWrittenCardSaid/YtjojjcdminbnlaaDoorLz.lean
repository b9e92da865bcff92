/-
  Conditions: brackets balance; two taken away, it is written otherwise.
-/
import Derived.Test.YtjojjcdminbnlaaDoorLy
namespace Go.Proofs.YtjojjcdminbnlaaDoor

def bal : List UInt8 → Nat → Option Nat
  | [], n => some n
  | c :: t, n => if c = 40 then bal t (n + 1) else if c = 41 then (if n = 0 then none else bal t (n - 1)) else bal t n
theorem bal_app : ∀ (a b : List UInt8) (n : Nat), bal (a ++ b) n = (bal a n).bind (bal b)
  | [], b, n => rfl
  | c :: a, b, n => by
    rw [List.cons_append, bal, bal]
    split
    · exact bal_app a b _
    · split
      · split
        · rfl
        · exact bal_app a b _
      · exact bal_app a b _
theorem bal_free : ∀ (a : List UInt8) (n : Nat), (∀ c ∈ a, c ≠ 40 ∧ c ≠ 41) → bal a n = some n
  | [], n, _ => rfl
  | c :: a, n, h => by
    have := h c (by simp)
    rw [bal, if_neg this.1, if_neg this.2]
    exact bal_free a n fun d hd => h d (by simp [hd])
theorem bal_br (r k : Nat) (l : List UInt8) (h : ∀ n, bal l n = some n) (n : Nat) : bal (brM r k l) n = some n := by
  unfold brM
  split
  · rw [bal, if_pos rfl, bal_app, h]; rfl
  · exact h n
theorem al_free {w : List UInt8} (h : ∀ b ∈ w, alB b = true) : ∀ c ∈ w, c ≠ 40 ∧ c ≠ 41 := fun c hc => by
  have := h c hc
  exact ⟨by rintro rfl; exact absurd this (by decide), by rintro rfl; exact absurd this (by decide)⟩
theorem bal_wr : ∀ (x : Ex), x.ok → ∀ k n, bal (x.wr k) n = some n
  | .bad, h, _, _ => h.elim
  | .num m, h, k, n => by
    refine bal_br 6 k _ (fun n => bal_free _ n (al_free fun b hb => ?_)) n
    have hi : Lib.itoa m = Lib.decDigits m.toNat := by unfold Lib.itoa; rw [if_neg (by have := h.1; omega)]
    rw [hi] at hb
    unfold alB
    rw [(dec_dig m.toNat m.toNat (Nat.le_refl _)).1 b hb]; rfl
  | .var w, h, k, n => bal_br 6 k _ (fun n => bal_free _ n (al_free h.2.2.1)) n
  | .un op x, h, k, n => by
    rw [Ex.wr]
    refine bal_br 5 k _ (fun n => ?_) n
    split
    · exact bal_wr x h.2 5 n
    · exact bal_wr x h.2 5 n
  | .bin op x y, h, k, n => by
    have ho : op ≠ 40 ∧ op ≠ 41 := by rcases h.1 with rfl | rfl | rfl | rfl | rfl | rfl | rfl <;> decide
    have key : ∀ i j n, bal (x.wr i ++ op :: y.wr j) n = some n := fun i j n => by
      rw [bal_app, bal_wr x h.2.1 i n]
      show bal (op :: y.wr j) n = some n
      rw [bal, if_neg ho.1, if_neg ho.2]
      exact bal_wr y h.2.2 j n
    rw [Ex.wr]
    split
    · exact bal_br _ _ _ (key 3 3) n
    · exact bal_br _ _ _ (key _ _) n
/-- Two bytes shorter it is never written as it was. -/
theorem less_no {s u : List UInt8} (hl : u.length < s.length) : ¬ ((writeM u).2 = 0 ∧ (writeM u).1 = s) := by
  rintro ⟨h1, h2⟩
  unfold writeM at h1 h2
  cases hp : parseM u with
  | mk x e =>
    rw [hp] at h1 h2
    dsimp only at h1 h2
    by_cases he : e = 0
    · subst he
      rw [if_neg (by decide)] at h2
      have := (parse_ok hp).2.1
      have : (x.wr 0).length ≤ u.length := this
      rw [show x.wr 0 = s from h2] at this
      omega
    · rw [if_pos he] at h1
      exact he h1
end Go.Proofs.YtjojjcdminbnlaaDoor
