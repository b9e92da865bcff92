/-
  Shared pages, in plain words.
-/
import Derived.Test.YtcnppcddpcpeoaaLaws2
namespace Go.Proofs.Ytcnppcddpcpeoaa

theorem sh_step {r r' : List Int} {j : Nat} (hk : ∀ k, k ≠ j → r'.getD k 0 = r.getD k 0) : ∀ m, shN r r' m = shN r' r m ∧ (m ≤ j → shN r r m = shN r r' m ∧ shN r' r' m = shN r r' m) ∧ shN r r m ≤ shN r r' m + 1 ∧ shN r r' m ≤ shN r r m ∧ shN r r' m ≤ shN r' r' m ∧ shN r' r' m ≤ shN r r' m + 1
  | 0 => by simp [shN]
  | m + 1 => by
    obtain ⟨h1, h2, h3, h4, h5, h6⟩ := sh_step hk m
    simp only [shN_succ]
    by_cases e : m = j
    · subst e
      obtain ⟨h7, h8⟩ := h2 (Nat.le_refl _)
      generalize r.getD m 0 = x at *
      generalize r'.getD m 0 = y at *
      by_cases hxy : x = y
      · subst hxy
        refine ⟨by omega, fun h => by omega, ?_, ?_, ?_, ?_⟩ <;> (split <;> omega)
      · have e1 : (x == y) = false := by simpa using hxy
        have e2 : (y == x) = false := by simpa using Ne.symm hxy
        simp only [e1, e2, Bool.and_false, Bool.false_eq_true, if_false, beq_self_eq_true, Bool.and_true]
        refine ⟨by omega, fun h => by omega, ?_, ?_, ?_, ?_⟩ <;> first | omega | (split <;> omega)
    · rw [hk m e]
      refine ⟨by omega, fun h => ?_, ?_, ?_, ?_, ?_⟩
      · obtain ⟨h7, h8⟩ := h2 (by omega)
        exact ⟨by omega, by omega⟩
      all_goals split <;> omega
theorem getD_both {l m : List Int} {k : Nat} (hl : l.length = m.length) (h : l.getD k (-1) = m.getD k (-1)) : l.getD k 0 = m.getD k 0 := by
  simp only [List.getD_eq_getElem?_getD] at h ⊢
  by_cases hk : k < l.length
  · have hm : k < m.length := by omega
    rw [List.getElem?_eq_getElem hk, List.getElem?_eq_getElem hm] at h ⊢
    exact h
  · rw [List.getElem?_eq_none (by omega), List.getElem?_eq_none (by omega)]
/-- What PagesShares asks. -/
theorem shares_ok {s : DsC} {root at_ v : Int} (h : setR s root at_ v = 0) : ∃ t, setC s root.toNat at_.toNat v = t ∧ ∃ n : Int, (freeRoot s.roots : Nat) = n ∧
    thereL s [root, root] = 0 ∧ thereL t [root, n] = 0 ∧ thereL t [n, n] = 0 ∧ thereL t [n, root] = 0 ∧
    ∃ own both mine turned : Int, sharedV s root root = own ∧ sharedV t root n = both ∧ sharedV t n n = mine ∧ sharedV t n root = turned ∧ both = turned ∧ own - 1 ≤ both ∧ both ≤ own ∧ both ≤ mine ∧ mine ≤ both + 1 ∧ 0 ≤ own ∧ own ≤ 16 ∧ 0 ≤ both ∧ both ≤ 16 := by
  obtain ⟨q, a, rfl, rfl, ha, hq, h16, ho, hs⟩ := setR_facts h
  refine ⟨_, rfl, _, rfl, ?_⟩
  rw [Int.toNat_natCast, Int.toNat_natCast] at hs ⊢
  generalize setC s q a v = t at *
  have hn := hs.nlt
  have hn16 := hs.n16
  have hkeep := hs.keep
  obtain ⟨hne, hqt, hqr⟩ := hs.other q hq (by intro e; rw [e] at h16; simp at h16)
  generalize freeRoot s.roots = n at *
  have t1 : There s (q : Int) := there_of hq h16
  have t2 : There t (q : Int) := there_of hqt (by rw [hqr]; exact h16)
  have t3 : There t (n : Int) := there_of hn hn16
  have a1 : thereL s [(q : Int), q] = 0 := thereL_zero.2 ⟨ho, by simpa using t1⟩
  have a2 : thereL t [(q : Int), n] = 0 := thereL_zero.2 ⟨hs.ok, by simp only [List.mem_cons, List.not_mem_nil, or_false]; rintro r (rfl | rfl); exact t2; exact t3⟩
  have a3 : thereL t [(n : Int), n] = 0 := thereL_zero.2 ⟨hs.ok, by simpa using t3⟩
  have a4 : thereL t [(n : Int), q] = 0 := thereL_zero.2 ⟨hs.ok, by simp only [List.mem_cons, List.not_mem_nil, or_false]; rintro r (rfl | rfl); exact t3; exact t2⟩
  refine ⟨a1, a2, a3, a4, _, _, _, _, rfl, rfl, rfl, rfl, ?_⟩
  unfold sharedV
  rw [if_pos a1, if_pos a2, if_pos a3, if_pos a4]
  simp only [Int.toNat_natCast]
  rw [hqr]
  have hk : ∀ k, k ≠ a / 4 → (t.roots.getD n []).getD k 0 = (s.roots.getD q []).getD k 0 := fun k hk => by
    exact getD_both (by omega) (hkeep k hk)
  obtain ⟨h1, -, h3, h4, h5, h6⟩ := sh_step hk 16
  have h7 := shN_le (s.roots.getD q []) (s.roots.getD q []) 16
  have h8 := shN_le (s.roots.getD q []) (t.roots.getD n []) 16
  omega
end Go.Proofs.Ytcnppcddpcpeoaa
