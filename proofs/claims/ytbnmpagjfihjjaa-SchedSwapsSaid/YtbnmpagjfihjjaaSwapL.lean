/-
  The law of SchedSwaps: what a word's steps say.
-/
import Derived.Test.YtbnmpagjfihjjaaNor
namespace Go.Proofs.Ytbnmpagjfihjjaa
open Go.RowKit

theorem insL_comm (a b : Int) : ∀ r : List Int, insL a (insL b r) = insL b (insL a r)
  | [] => by
    simp only [insL]
    split <;> split <;> first | rfl | (exfalso; omega) | (have : a = b := by omega
                                                          rw [this])
  | x :: r => by
    by_cases ha : x < a <;> by_cases hb : x < b
    · simp only [insL, if_pos ha, if_pos hb, insL_comm a b r]
    · have h : b < a := by omega
      simp only [insL, if_pos ha, if_neg hb, if_pos h]
    · have h : a < b := by omega
      simp only [insL, if_neg ha, if_pos hb, if_pos h]
    · simp only [insL, if_neg ha, if_neg hb]
      rcases Int.lt_trichotomy a b with h | h | h
      · rw [if_pos h, if_neg (by omega)]
      · subst h; rfl
      · rw [if_pos h, if_neg (by omega)]
/-- The rows behind one act more. -/
def insR (R : List (List Int)) (s : Nat) (a : Int) : List (List Int) := (if s = R.length then R ++ [[]] else R).set s (insL a ((if s = R.length then R ++ [[]] else R).getD s []))
theorem nst_eq (D : List (List Bool)) (σ : List Nat × List (List Int)) (a : Nat) : nst D σ a = (bumpL D a (σ.1.getD a 0) σ.1, insR σ.2 (σ.1.getD a 0) a) := rfl
theorem rowD_app (R : List (List Int)) (k : Nat) : (R ++ [[]]).getD k [] = R.getD k [] := by
  rw [List.getD_eq_getElem?_getD, List.getD_eq_getElem?_getD]
  by_cases h : k < R.length
  · rw [List.getElem?_append_left h]
  · rw [List.getElem?_append_right (by omega), List.getElem?_eq_none (Nat.le_of_not_lt h)]
    cases hk : k - R.length with
    | zero => rfl
    | succ m => rfl
theorem insR_len {R : List (List Int)} {s : Nat} (hs : s ≤ R.length) (a : Int) : (insR R s a).length = max R.length (s + 1) := by
  unfold insR
  rw [List.length_set]
  split
  · rw [List.length_append, List.length_singleton]; omega
  · omega
theorem insR_get {R : List (List Int)} {s : Nat} (hs : s ≤ R.length) (a : Int) (k : Nat) : (insR R s a).getD k [] = if k = s then insL a (R.getD s []) else R.getD k [] := by
  unfold insR
  have h1 : (if s = R.length then R ++ [[]] else R).getD s [] = R.getD s [] := by split <;> simp only [rowD_app]
  have h2 : (if s = R.length then R ++ [[]] else R).getD k [] = R.getD k [] := by split <;> simp only [rowD_app]
  have hl : s < (if s = R.length then R ++ [[]] else R).length := by
    split
    · rw [List.length_append, List.length_singleton]; omega
    · omega
  rw [h1]
  generalize (if s = R.length then R ++ [[]] else R) = Q at *
  rw [List.getD_eq_getElem?_getD, List.getElem?_set]
  by_cases e : k = s
  · subst e; rw [if_pos rfl, if_pos rfl, if_pos hl]; rfl
  · rw [if_neg (Ne.symm e), if_neg e, ← List.getD_eq_getElem?_getD, h2]
theorem rows_ext {R Q : List (List Int)} (h : R.length = Q.length) (he : ∀ k, R.getD k [] = Q.getD k []) : R = Q := by
  refine List.ext_getElem h fun k h1 h2 => ?_
  have := he k
  rwa [List.getD_eq_getElem?_getD, List.getD_eq_getElem?_getD, List.getElem?_eq_getElem h1, List.getElem?_eq_getElem h2] at this
theorem bump_get (D : List (List Bool)) (a s : Nat) (nx : List Nat) (k : Nat) : (bumpL D a s nx).getD k 0 = if k < nx.length ∧ dg D a k = true then max (nx.getD k 0) (s + 1) else nx.getD k 0 := by
  by_cases hk : k < nx.length
  · rw [bumpL_get hk]
    by_cases h : dg D a k = true
    · rw [if_pos h, if_pos ⟨hk, h⟩]
    · rw [if_neg h, if_neg (fun e => h e.2)]
  · rw [if_neg (fun e => hk e.1), List.getD_eq_getElem?_getD, List.getD_eq_getElem?_getD, List.getElem?_eq_none (by rw [bumpL_len]; omega), List.getElem?_eq_none (by omega)]
theorem bump_comm (D : List (List Bool)) (a b s t : Nat) (nx : List Nat) : bumpL D a s (bumpL D b t nx) = bumpL D b t (bumpL D a s nx) := getD_ext (by simp only [bumpL_len]) fun k hk => by
  rw [bumpL_len, bumpL_len] at hk
  simp only [bump_get, bumpL_len]
  by_cases h1 : dg D a k = true <;> by_cases h2 : dg D b k = true <;> simp only [hk, h1, h2, true_and, if_true] <;> first | rfl | omega | (simp; try omega)
/-- Two that do not hang on one another may come in either order. -/
theorem nst_comm {D : List (List Bool)} {σ : List Nat × List (List Int)} {k a b : Nat} (h : NOk D σ k) (h1 : dg D a b = false) (h2 : dg D b a = false) : nst D (nst D σ a) b = nst D (nst D σ b) a := by
  simp only [nst_eq]
  have e1 : (bumpL D a (σ.1.getD a 0) σ.1).getD b 0 = σ.1.getD b 0 := by rw [bump_get, if_neg (fun e => by rw [h1] at e; exact absurd e.2 (by simp))]
  have e2 : (bumpL D b (σ.1.getD b 0) σ.1).getD a 0 = σ.1.getD a 0 := by rw [bump_get, if_neg (fun e => by rw [h2] at e; exact absurd e.2 (by simp))]
  rw [e1, e2, bump_comm]
  have ha := h.le a
  have hb := h.le b
  generalize σ.1.getD a 0 = s at *
  generalize σ.1.getD b 0 = t at *
  have la := insR_len ha (a : Int)
  have lb := insR_len hb (b : Int)
  refine Prod.ext rfl (rows_ext ?_ fun k => ?_)
  · dsimp only
    rw [insR_len (R := insR σ.2 s a) (s := t) (by omega), insR_len (R := insR σ.2 t b) (s := s) (by omega), la, lb]
    omega
  · dsimp only
    rw [insR_get (R := insR σ.2 s a) (s := t) (by omega), insR_get (R := insR σ.2 t b) (s := s) (by omega)]
    simp only [insR_get ha, insR_get hb]
    by_cases c1 : k = t <;> by_cases c2 : k = s
    · subst c1; subst c2
      simp only [if_true, insL_comm]
    · subst c1
      simp only [if_true, if_neg c2]
    · subst c2
      simp only [if_true, if_neg c1]
    · simp only [if_neg c1, if_neg c2]
/-- One is moved ahead of many that do not hang on it. -/
theorem move {D : List (List Bool)} {a : Nat} : ∀ (Y : List Nat) (σ : List Nat × List (List Int)) (k : Nat), NOk D σ k → (∀ y ∈ Y, dg D a y = false ∧ dg D y a = false) → (a :: Y).foldl (nst D) σ = (Y ++ [a]).foldl (nst D) σ
  | [], _, _, _, _ => rfl
  | y :: Y, σ, k, h, hY => by
    have hy := hY y List.mem_cons_self
    rw [List.foldl_cons, List.foldl_cons, nst_comm h hy.1 hy.2, List.cons_append, List.foldl_cons]
    exact move Y (nst D σ y) (k + 1) (nok_step h) fun z hz => hY z (List.mem_cons_of_mem _ hz)
/-- What the rows hold. -/
structure RInv (D : List (List Bool)) (σ : List Nat × List (List Int)) : Prop where
  act : ∀ j, ∀ y ∈ σ.2.getD j [], 0 ≤ y ∧ y.toNat < D.length
  ahead : ∀ j, ∀ y ∈ σ.2.getD j [], ∀ a, a < D.length → dg D y.toNat a = true → j < σ.1.getD a 0
theorem rinv_zero (D : List (List Bool)) : RInv D (nrm D []) := by
  constructor <;> intro j y hy <;> simp [nrm] at hy
theorem rinv_step {D : List (List Bool)} {σ : List Nat × List (List Int)} {k a : Nat} (h : NOk D σ k) (hr : RInv D σ) (ha : a < D.length) : RInv D (nst D σ a) := by
  rw [nst_eq]
  have hle := h.le a
  refine ⟨fun j y hy => ?_, fun j y hy b hb hd => ?_⟩
  · dsimp only at hy
    rw [insR_get hle] at hy
    split at hy
    · rcases insL_mem.1 hy with e | e
      · subst e; exact ⟨by omega, by rw [Int.toNat_natCast]; exact ha⟩
      · exact hr.act _ y e
    · exact hr.act _ y hy
  · dsimp only at hy ⊢
    have hbl : b < σ.1.length := by rw [h.nlen]; exact hb
    rw [insR_get hle] at hy
    rw [bump_get]
    split at hy
    · next e =>
      subst e
      rcases insL_mem.1 hy with e | e
      · subst e
        rw [Int.toNat_natCast] at hd
        rw [if_pos ⟨hbl, hd⟩]
        omega
      · have := hr.ahead _ y e b hb hd
        split <;> omega
    · have := hr.ahead _ y hy b hb hd
      split <;> omega
theorem flatten_set {R : List (List Int)} {s : Nat} (hs : s < R.length) (r : List Int) : (R.set s r).flatten = (R.take s).flatten ++ (r ++ (R.drop (s + 1)).flatten) := by
  rw [List.set_eq_take_append_cons_drop, if_pos hs, List.flatten_append, List.flatten_cons]
theorem flatten_at {R : List (List Int)} {s : Nat} (hs : s < R.length) : R.flatten = (R.take s).flatten ++ (R.getD s [] ++ (R.drop (s + 1)).flatten) := by
  rw [← flatten_set hs]
  congr 1
  rw [List.getD_eq_getElem?_getD, List.getElem?_eq_getElem hs]
  exact (List.set_getElem_self hs).symm
theorem mem_drop_row {R : List (List Int)} {s : Nat} {y : Int} (h : y ∈ (R.drop s).flatten) : ∃ j, s ≤ j ∧ y ∈ R.getD j [] := by
  obtain ⟨r, hr, hy⟩ := List.mem_flatten.1 h
  obtain ⟨j, hj, rfl⟩ := List.getElem_of_mem hr
  refine ⟨s + j, by omega, ?_⟩
  rw [List.getElem_drop] at hy
  rw [List.length_drop] at hj
  rw [List.getD_eq_getElem?_getD, List.getElem?_eq_getElem (by omega)]
  exact hy
/-- One act more: where it comes to lie. -/
theorem flat_snoc {D : List (List Bool)} {σ : List Nat × List (List Int)} {k a : Nat} (h : NOk D σ k) (hr : RInv D σ) (ha : a < D.length) : ∃ X Y : List Int, σ.2.flatten = X ++ Y ∧ (nst D σ a).2.flatten = X ++ (a : Int) :: Y ∧ ∀ y ∈ Y, 0 ≤ y ∧ y.toNat < D.length ∧ dg D y.toNat a = false := by
  rw [nst_eq]
  have hle := h.le a
  have hsrt := (row_srt h (σ.1.getD a 0)).1
  have had := fun j y (hy : y ∈ σ.2.getD j []) => hr.ahead j y hy a ha
  have hact := hr.act
  dsimp only
  generalize σ.1.getD a 0 = s at *
  generalize σ.2 = R at *
  have hflat : (if s = R.length then R ++ [[]] else R).flatten = R.flatten := by
    split
    · rw [List.flatten_append]; simp
    · rfl
  have hrow : ∀ j, (if s = R.length then R ++ [[]] else R).getD j [] = R.getD j [] := fun j => by split <;> simp only [rowD_app]
  have hl : s < (if s = R.length then R ++ [[]] else R).length := by
    split
    · rw [List.length_append, List.length_singleton]; omega
    · omega
  unfold insR
  rw [← hflat]
  generalize (if s = R.length then R ++ [[]] else R) = Q at *
  rw [flatten_set hl, insL_at (by rw [hrow]; exact hsrt)]
  refine ⟨(Q.take s).flatten ++ (Q.getD s []).take ((Q.getD s []).countP (· < (a : Int))), (Q.getD s []).drop ((Q.getD s []).countP (· < (a : Int))) ++ (Q.drop (s + 1)).flatten, ?_, ?_, fun y hy => ?_⟩
  · rw [flatten_at hl]
    simp only [List.append_assoc]
    rw [← List.append_assoc (List.take _ _), List.take_append_drop]
  · simp only [List.append_assoc, List.cons_append]
  · have hj : ∃ j, s ≤ j ∧ y ∈ R.getD j [] := by
      rcases List.mem_append.1 hy with h1 | h1
      · exact ⟨s, Nat.le_refl _, by rw [← hrow]; exact List.mem_of_mem_drop h1⟩
      · obtain ⟨j, hj, hm⟩ := mem_drop_row h1
        exact ⟨j, by omega, by rw [← hrow]; exact hm⟩
    obtain ⟨j, hj, hm⟩ := hj
    obtain ⟨q1, q2⟩ := hact j y hm
    refine ⟨q1, q2, ?_⟩
    cases hd : dg D y.toNat a with
    | false => rfl
    | true => have := had j y hm hd; omega
end Go.Proofs.Ytbnmpagjfihjjaa
