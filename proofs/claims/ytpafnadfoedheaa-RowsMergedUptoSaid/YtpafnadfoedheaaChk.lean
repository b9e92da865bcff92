/-
  The plain law of slices.stableCmpFunc: blocks of B, each sorted; blocks of 2 B out of two of them.
-/
import Derived.Test.YtpafnadfoedheaaStab
namespace Go.Proofs.Ytpafnadfoedheaa
open Go.Sort
section
variable {α : Type} {key : α → Int}

/-- Each block of B is sorted. -/
def Ch (key : α → Int) (B : Nat) (l : List α) : Prop := ∀ t, Srt key ((l.drop (t * B)).take B)

theorem ch_nil (B : Nat) : Ch key B ([] : List α) := fun t => by simp [Srt]
theorem ch_one {B : Nat} {l : List α} (h : Ch key B l) (hl : l.length ≤ B) : Srt key l := by
  have := h 0
  rwa [Nat.zero_mul, List.drop_zero, List.take_of_length_le hl] at this
theorem ch_take {B : Nat} {l : List α} (h : Ch key B l) : Srt key (l.take B) := by
  have := h 0
  rwa [Nat.zero_mul, List.drop_zero] at this
theorem ch_drop {B : Nat} {l : List α} (h : Ch key B l) : Ch key B (l.drop B) := fun t => by
  have := h (t + 1)
  rw [List.drop_drop, show B + t * B = (t + 1) * B from by rw [Nat.succ_mul]; omega]
  exact this
theorem ch_cons {B : Nat} {x l : List α} (hx : x.length = B) (hs : Srt key x) (h : Ch key B l) : Ch key B (x ++ l) := fun t => by
  cases t with
  | zero => rw [Nat.zero_mul, List.drop_zero, List.take_append_of_le_length (by omega), List.take_of_length_le (by omega)]; exact hs
  | succ t =>
    have := h t
    rw [List.drop_append, List.drop_of_length_le (by rw [Nat.succ_mul]; omega), List.nil_append, show (t + 1) * B - x.length = t * B from by rw [Nat.succ_mul]; omega]
    exact this
theorem ch_single {B : Nat} {x : List α} (hx : x.length ≤ B) (hs : Srt key x) : Ch key B x := fun t => by
  cases t with
  | zero => rw [Nat.zero_mul, List.drop_zero, List.take_of_length_le (by omega)]; exact hs
  | succ t =>
    rw [List.drop_of_length_le (by rw [Nat.succ_mul]; omega)]
    simp [Srt]
theorem ch_snoc {B : Nat} {x : List α} (hx : x.length ≤ B) (hs : Srt key x) : ∀ (t : Nat) (m : List α), m.length = t * B → Ch key B m → Ch key B (m ++ x)
  | 0, m, hm, h => by
    have : m = [] := List.length_eq_zero_iff.1 (by omega)
    subst this
    exact ch_single hx hs
  | t + 1, m, hm, h => by
    have e := List.take_append_drop B m
    rw [← e, List.append_assoc]
    refine ch_cons (by rw [List.length_take, hm, Nat.succ_mul]; omega) (ch_take h) (ch_snoc hx hs t _ (by rw [List.length_drop, hm, Nat.succ_mul]; omega) (ch_drop h))

/-- Two blocks of B at the rest's begin, merged. -/
theorem two_blocks {B : Nat} {R : List α} (h : Ch key B R) : R = R.take B ++ (R.drop B).take B ++ R.drop (2 * B) ∧ Srt key (R.take B) ∧ Srt key ((R.drop B).take B) ∧ Ch key B (R.drop (2 * B)) := by
  refine ⟨?_, ch_take h, ch_take (ch_drop h), ?_⟩
  · rw [show R.drop (2 * B) = (R.drop B).drop B from by rw [List.drop_drop]; congr 1; omega, List.append_assoc, List.take_append_drop, List.take_append_drop]
  · rw [show R.drop (2 * B) = (R.drop B).drop B from by rw [List.drop_drop]; congr 1; omega]
    exact ch_drop (ch_drop h)
theorem stb_mid {A X B : List α} : Stb key (A ++ X ++ B) (A ++ ssort key X ++ B) := Stb.append (Stb.append (Stb.refl _) (ssort_stb _)) (Stb.refl _)
end
end Go.Proofs.Ytpafnadfoedheaa
