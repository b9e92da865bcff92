/-
  The plain law of counting interleavings: n over k, again and again.
-/
import Derived.Test.YtbnmpagjfihjjaaProg
namespace Go.Proofs.Ytbnmpagjfihjjaa

def ch : Nat → Nat → Nat
  | _, 0 => 1
  | 0, _ + 1 => 0
  | n + 1, k + 1 => ch n k + ch n (k + 1)
theorem ch_zero (n : Nat) : ch n 0 = 1 := by cases n <;> rfl
theorem ch_succ : ∀ n k : Nat, ch (n + 1) (k + 1) * (k + 1) = ch n k * (n + 1)
  | 0, 0 => rfl
  | 0, k + 1 => by simp [ch]
  | n + 1, 0 => by
    have h1 : ch (n + 1) 1 * 1 = ch n 0 * (n + 1) := ch_succ n 0
    show (ch (n + 1) 0 + ch (n + 1) 1) * 1 = ch (n + 1) 0 * (n + 1 + 1)
    rw [ch_zero] at h1 ⊢
    omega
  | n + 1, k + 1 => by
    have h1 := ch_succ n k
    have h2 := ch_succ n (k + 1)
    have e : ch (n + 1) (k + 1) = ch n k + ch n (k + 1) := rfl
    show (ch (n + 1) (k + 1) + ch (n + 1) (k + 1 + 1)) * (k + 1 + 1) = ch (n + 1) (k + 1) * (n + 1 + 1)
    rw [Nat.add_mul, h2, Nat.mul_add (ch (n + 1) (k + 1)) (k + 1) 1, h1, Nat.mul_one, Nat.mul_add (ch (n + 1) (k + 1)) (n + 1) 1, Nat.mul_one]
    have : ch (n + 1) (k + 1) * (n + 1) = ch n k * (n + 1) + ch n (k + 1) * (n + 1) := by rw [e, Nat.add_mul]
    omega
def fct : Nat → Nat
  | 0 => 1
  | n + 1 => (n + 1) * fct n
theorem fct_pos : ∀ n, 0 < fct n
  | 0 => Nat.one_pos
  | n + 1 => Nat.mul_pos (Nat.succ_pos n) (fct_pos n)
theorem ch_fct (A : Nat) : ∀ p, ch (A + p) p * (fct p * fct A) = fct (A + p)
  | 0 => by rw [ch_zero]; simp [fct]
  | p + 1 => by
    have h := ch_fct A p
    have h2 := ch_succ (A + p) p
    show ch (A + p + 1) (p + 1) * ((p + 1) * fct p * fct A) = (A + p + 1) * fct (A + p)
    rw [← h, Nat.mul_assoc (p + 1), ← Nat.mul_assoc, h2]
    rw [Nat.mul_comm (ch (A + p) p) (A + p + 1), Nat.mul_assoc]
theorem ch_le (A k : Nat) (h : A + k ≤ 12) : ch (A + k) k ≤ 12 ^ k := by
  induction k with
  | zero => rw [ch_zero]; exact Nat.le_refl _
  | succ k ih =>
    have h1 := ih (by omega)
    have h2 := ch_succ (A + k) k
    have h3 : ch (A + k + 1) (k + 1) ≤ ch (A + k + 1) (k + 1) * (k + 1) := Nat.le_mul_of_pos_right _ (Nat.succ_pos k)
    rw [h2] at h3
    have h4 : ch (A + k) k * (A + k + 1) ≤ 12 ^ k * 12 := Nat.mul_le_mul h1 (by omega)
    rw [Nat.pow_succ]
    exact Nat.le_trans h3 h4
/-- How many interleavings, with A steps ahead. -/
def cM : Nat → List Nat → Nat
  | _, [] => 1
  | A, p :: ps => ch (A + p) p * cM (A + p) ps
theorem cM_snoc (p : Nat) : ∀ (ps : List Nat) (A : Nat), cM A (ps ++ [p]) = cM A ps * ch (A + ps.sum + p) p
  | [], A => by simp [cM]
  | q :: ps, A => by
    rw [List.cons_append, cM, cM, cM_snoc p ps, Nat.mul_assoc, List.sum_cons]
    congr 3
    omega
theorem cM_le : ∀ (ps : List Nat) (A : Nat), A + ps.sum ≤ 12 → cM A ps ≤ 12 ^ ps.sum
  | [], _, _ => Nat.le_refl _
  | p :: ps, A, h => by
    rw [List.sum_cons] at h ⊢
    rw [cM, Nat.pow_add]
    exact Nat.mul_le_mul (ch_le A p (by omega)) (cM_le ps (A + p) (by omega))
def pf (ps : List Nat) : Nat := (ps.map fct).foldr (· * ·) 1
theorem pf_cons (p : Nat) (ps : List Nat) : pf (p :: ps) = fct p * pf ps := rfl
theorem pf_pos : ∀ ps, 0 < pf ps
  | [] => Nat.one_pos
  | p :: ps => Nat.mul_pos (fct_pos p) (pf_pos ps)
theorem cM_fct : ∀ (ps : List Nat) (A : Nat), cM A ps * (pf ps * fct A) = fct (A + ps.sum)
  | [], A => by simp [cM, pf]
  | p :: ps, A => by
    have h := cM_fct ps (A + p)
    have h2 := ch_fct A p
    rw [cM, pf_cons, List.sum_cons, show A + (p + ps.sum) = A + p + ps.sum from by omega, ← h, ← h2]
    simp only [Nat.mul_comm, Nat.mul_left_comm, Nat.mul_assoc]
theorem cM_zero (ps : List Nat) : cM 0 ps * pf ps = fct ps.sum := by
  have := cM_fct ps 0
  rw [Nat.zero_add] at this
  rw [← this]
  simp [fct]
theorem cM_pos (ps : List Nat) : 0 < cM 0 ps := by
  have h := cM_zero ps
  have := fct_pos ps.sum
  rcases Nat.eq_zero_or_pos (cM 0 ps) with e | e
  · rw [e, Nat.zero_mul] at h; omega
  · exact e

/-- One step of thread k less. -/
def dec (ps : List Nat) (k : Nat) : List Nat := ps.set k (ps.getD k 0 - 1)
theorem dec_len (ps : List Nat) (k : Nat) : (dec ps k).length = ps.length := by simp [dec]
theorem dec_sum {ps : List Nat} {k : Nat} (h : 0 < ps.getD k 0) : (dec ps k).sum + 1 = ps.sum := by
  unfold dec
  induction ps generalizing k with
  | nil => simp at h
  | cons p ps ih =>
    cases k with
    | zero => simp at h ⊢; omega
    | succ k =>
      have := ih (k := k) (by simpa using h)
      simp only [List.getD_cons_succ, List.set_cons_succ, List.sum_cons]
      omega
theorem dec_pf {ps : List Nat} {k : Nat} (h : 0 < ps.getD k 0) : pf (dec ps k) * ps.getD k 0 = pf ps := by
  unfold dec
  induction ps generalizing k with
  | nil => simp at h
  | cons p ps ih =>
    cases k with
    | zero =>
      simp only [List.getD_cons_zero, List.set_cons_zero] at h ⊢
      obtain ⟨q, rfl⟩ : ∃ q, p = q + 1 := ⟨p - 1, by omega⟩
      rw [pf_cons, pf_cons, Nat.add_sub_cancel]
      show fct q * pf ps * (q + 1) = (q + 1) * fct q * pf ps
      rw [Nat.mul_comm, Nat.mul_assoc]
    | succ k =>
      have := ih (k := k) (by simpa using h)
      simp only [List.getD_cons_succ, List.set_cons_succ]
      rw [pf_cons, pf_cons, Nat.mul_assoc, this]
/-- Without one step of thread k: how many are left. -/
def wo (ps : List Nat) (k : Nat) : Nat := if ps.getD k 0 = 0 then 0 else cM 0 (dec ps k)
theorem wo_pf (ps : List Nat) (k : Nat) (n : Nat) (hn : ps.sum = n + 1) : wo ps k * pf ps = ps.getD k 0 * fct n := by
  unfold wo
  split
  · next h => rw [h]; simp
  · next h =>
    have h1 := dec_pf (ps := ps) (k := k) (by omega)
    have h2 := dec_sum (ps := ps) (k := k) (by omega)
    have h3 := cM_zero (dec ps k)
    rw [← h1, ← Nat.mul_assoc, h3, show (dec ps k).sum = n from by omega, Nat.mul_comm]
/-- Those of the threads ahead of k. -/
def pre (ps : List Nat) : Nat → Nat
  | 0 => 0
  | k + 1 => pre ps k + wo ps k
theorem pre_pf (ps : List Nat) (n : Nat) (hn : ps.sum = n + 1) : ∀ k, k ≤ ps.length → pre ps k * pf ps = (ps.take k).sum * fct n
  | 0, _ => by simp [pre]
  | k + 1, h => by
    rw [pre, Nat.add_mul, pre_pf ps n hn k (by omega), wo_pf ps k n hn, List.take_add_one, List.sum_append, Nat.add_mul, List.getD_eq_getElem?_getD, List.getElem?_eq_getElem (by omega)]
    simp
/-- All of them: by the thread that steps first. -/
theorem pre_all {ps : List Nat} (h : 0 < ps.sum) : pre ps ps.length = cM 0 ps := by
  obtain ⟨n, hn⟩ : ∃ n, ps.sum = n + 1 := ⟨ps.sum - 1, by omega⟩
  have h1 := pre_pf ps n hn ps.length (Nat.le_refl _)
  have h2 := cM_zero ps
  rw [List.take_length, hn] at h1
  rw [hn] at h2
  have h3 : pre ps ps.length * pf ps = cM 0 ps * pf ps := by rw [h1, h2]; rfl
  exact Nat.eq_of_mul_eq_mul_right (pf_pos ps) h3
theorem pre_mono (ps : List Nat) {i j : Nat} (h : i ≤ j) : pre ps i ≤ pre ps j := by
  induction j with
  | zero => rw [show i = 0 from by omega]; exact Nat.le_refl _
  | succ j ih =>
    rcases Nat.lt_or_ge j i with h1 | h1
    · rw [show i = j + 1 from by omega]; exact Nat.le_refl _
    · rw [pre]; exact Nat.le_trans (ih h1) (Nat.le_add_right _ _)
end Go.Proofs.Ytbnmpagjfihjjaa
