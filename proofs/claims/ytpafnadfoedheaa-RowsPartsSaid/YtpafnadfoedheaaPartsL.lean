/-
  The plain law of RowsParts: parts are the whole.
-/
import Derived.Test.YtpafnadfoedheaaThreads
import Derived.Test.YtpafnadfoedheaaCount
namespace Go.Proofs.Ytpafnadfoedheaa
open Go.RowKit

def accI (f : Nat → Int) : Nat → Int
  | 0 => 0
  | i + 1 => accI f i + f i
theorem accI_bound {f : Nat → Int} {n : Nat} (h : ∀ j, j < n → 0 ≤ f j ∧ f j ≤ 200) : ∀ i, i ≤ n → 0 ≤ accI f i ∧ accI f i ≤ 200 * i
  | 0, _ => by simp [accI]
  | i + 1, hi => by
    have h1 := accI_bound h i (by omega)
    have h2 := h i (by omega)
    simp only [accI]
    omega
theorem accI_cong {f g : Nat → Int} {n : Nat} (h : ∀ j, j < n → f j = g j) : ∀ i, i ≤ n → accI f i = accI g i
  | 0, _ => rfl
  | i + 1, hi => by simp only [accI]; rw [accI_cong h i (by omega), h i (by omega)]
theorem accI_sum (l : List Int) : ∀ i, i ≤ l.length → accI (fun j => l.getD j 0) i = (l.take i).sum
  | 0, _ => rfl
  | i + 1, h => by
    rw [accI, accI_sum l i (by omega), List.take_add_one, List.sum_append, List.getD_eq_getElem?_getD, List.getElem?_eq_getElem (by omega)]
    simp
/-- How many of the first k. -/
def cntB (pr : Ev → Bool) (l : List Ev) : Nat → Nat
  | 0 => 0
  | k + 1 => cntB pr l k + if pr (l.getD k .z) then 1 else 0
theorem plcK_cnt (pr : Ev → Bool) (l : List Ev) : ∀ k, (plcK pr l k).length = cntB pr l k
  | 0 => rfl
  | k + 1 => by
    unfold plcK cntB
    have := plcK_cnt pr l k
    split
    · simp [this]
    · simp [this]
theorem cntB_le (pr : Ev → Bool) (l : List Ev) : ∀ k, cntB pr l k ≤ k
  | 0 => Nat.le_refl _
  | k + 1 => by
    unfold cntB
    have := cntB_le pr l k
    split <;> omega
def inT (e : Ev) : Bool := decide (0 ≤ e.t) && decide (e.t < 8)
def lastP (e : Ev) : Bool := e.s == 9223372036854775807
theorem one_thr (x : Ev) : ((if thr 0 x then 1 else 0) + (if thr 1 x then 1 else 0) + (if thr 2 x then 1 else 0) + (if thr 3 x then 1 else 0) + (if thr 4 x then 1 else 0) + (if thr 5 x then 1 else 0) + (if thr 6 x then 1 else 0) + (if thr 7 x then 1 else 0) : Nat) = if inT x then 1 else 0 := by
  unfold thr inT
  by_cases h : 0 ≤ x.t ∧ x.t < 8
  · rcases (by omega : x.t = 0 ∨ x.t = 1 ∨ x.t = 2 ∨ x.t = 3 ∨ x.t = 4 ∨ x.t = 5 ∨ x.t = 6 ∨ x.t = 7) with e | e | e | e | e | e | e | e <;> (rw [e]; decide)
  · have hn : ∀ j : Nat, j < 8 → ¬ x.t = (j : Int) := fun j hj e => h (by omega)
    have h0 := hn 0 (by omega); have h1 := hn 1 (by omega); have h2 := hn 2 (by omega); have h3 := hn 3 (by omega); have h4 := hn 4 (by omega); have h5 := hn 5 (by omega); have h6 := hn 6 (by omega); have h7 := hn 7 (by omega)
    have hf : (decide (0 ≤ x.t) && decide (x.t < 8)) = false := by
      rw [Bool.and_eq_false_iff, decide_eq_false_iff_not, decide_eq_false_iff_not]
      omega
    rw [hf]
    simp only [beq_iff_eq]
    rw [if_neg h0, if_neg h1, if_neg h2, if_neg h3, if_neg h4, if_neg h5, if_neg h6, if_neg h7]
    rfl
theorem thr_sum (l : List Ev) (k : Nat) : accI (fun j => ((plcK (thr j) l k).length : Int)) 8 = cntB inT l k := by
  simp only [plcK_cnt, accI]
  induction k with
  | zero => rfl
  | succ k ih =>
    have := one_thr (l.getD k .z)
    simp only [cntB]
    omega
theorem bet_sum {l : List Ev} (hwf : ∀ e ∈ l, e.s ≤ 9223372036854775807 ∧ -9223372036854775808 ≤ e.s) {a : Int} (ha : a ≤ 9223372036854775807) : ∀ k, k ≤ l.length → cntB (betB (-9223372036854775808) a) l k + cntB (betB a 9223372036854775807) l k + cntB lastP l k = k
  | 0, _ => rfl
  | k + 1, hk => by
    have ih := bet_sum hwf ha k (by omega)
    have hx := hwf (l.getD k .z) (by rw [List.getD_eq_getElem?_getD, List.getElem?_eq_getElem (by omega)]; exact List.getElem_mem _)
    simp only [cntB]
    have : ((if betB (-9223372036854775808) a (l.getD k .z) then 1 else 0) + (if betB a 9223372036854775807 (l.getD k .z) then 1 else 0) + (if lastP (l.getD k .z) then 1 else 0) : Nat) = 1 := by
      generalize l.getD k .z = x at *
      unfold betB lastP
      obtain ⟨h1, h2⟩ := hx
      rw [decide_eq_true h2, Bool.true_and]
      by_cases c1 : x.s < a
      · have c2 : ¬ a ≤ x.s := by omega
        have c3 : (x.s == 9223372036854775807) = false := by rw [beq_eq_false_iff_ne]; omega
        rw [decide_eq_true c1, decide_eq_false c2, c3]; rfl
      · have c2 : a ≤ x.s := by omega
        rw [decide_eq_false c1, decide_eq_true c2, Bool.true_and]
        by_cases c3 : x.s < 9223372036854775807
        · have c4 : (x.s == 9223372036854775807) = false := by rw [beq_eq_false_iff_ne]; omega
          rw [decide_eq_true c3, c4]; rfl
        · have c4 : (x.s == 9223372036854775807) = true := by rw [beq_iff_eq]; omega
          rw [decide_eq_false c3, c4]; rfl
    omega
end Go.Proofs.Ytpafnadfoedheaa
