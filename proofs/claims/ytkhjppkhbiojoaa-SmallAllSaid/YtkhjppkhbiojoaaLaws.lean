/-
  The plain laws of making a list smaller.
-/
import Derived.Test.YtkhjppkhbiojoaaFact
namespace Go.Proofs.Ytkhjppkhbiojoaa

theorem withoutM_sub (l : List Int) {a b : Nat} (h : a ≤ b) : List.Sublist (withoutM l a b) l := by
  unfold withoutM
  have h1 : List.Sublist (l.drop b) (l.drop a) := by
    rw [show b = a + (b - a) from by omega, ← List.drop_drop]
    exact List.drop_sublist _ _
  have h2 := List.Sublist.append (List.Sublist.refl (l.take a)) h1
  rwa [List.take_append_drop] at h2

theorem passM_keeps (q : List Int → Bool) (size : Nat) : ∀ (fuel to : Nat) (l : List Int) (many : Nat), q l = true → q (passM q size fuel to l many).1 = true ∧ List.Sublist (passM q size fuel to l many).1 l := by
  intro fuel
  induction fuel with
  | zero => intro to l many h; exact ⟨h, List.Sublist.refl _⟩
  | succ fuel ih =>
    intro to l many h
    by_cases h0 : 0 < to
    · cases hq : q (withoutM l (to - size) to) with
      | true =>
        rw [passM_yes h0 hq]
        obtain ⟨a, b⟩ := ih (to - size) (withoutM l (to - size) to) (many + 1) hq
        exact ⟨a, b.trans (withoutM_sub l (by omega))⟩
      | false =>
        rw [passM_no h0 hq]
        exact ih (to - size) l (many + 1) h
    · obtain rfl : to = 0 := by omega
      rw [passM_zero]; exact ⟨h, List.Sublist.refl _⟩

theorem passM_same (q : List Int → Bool) : ∀ (fuel to : Nat) (l : List Int) (many : Nat), to ≤ l.length → to ≤ fuel → (passM q 1 fuel to l many).1.length = l.length →
    (passM q 1 fuel to l many).1 = l ∧ ∀ i, i < to → q (withoutM l i (i + 1)) = false := by
  intro fuel
  induction fuel with
  | zero => intro to l many h1 h2 h3; obtain rfl : to = 0 := by omega
            exact ⟨rfl, fun i hi => by omega⟩
  | succ fuel ih =>
    intro to l many h1 h2 h3
    by_cases h0 : 0 < to
    · cases hq : q (withoutM l (to - 1) to) with
      | true =>
        rw [passM_yes h0 hq] at h3
        have hl := withoutM_length (l := l) (a := to - 1) (b := to) (by omega) h1
        have := (passM_bounds q 1 fuel (to - 1) (withoutM l (to - 1) to) (many + 1) (by omega) (by omega) (by omega)).2
        omega
      | false =>
        rw [passM_no h0 hq] at h3 ⊢
        obtain ⟨a, b⟩ := ih (to - 1) l (many + 1) (by omega) (by omega) h3
        refine ⟨a, fun i hi => ?_⟩
        by_cases e : i = to - 1
        · subst e
          rw [show to - 1 + 1 = to from by omega]; exact hq
        · exact b i (by omega)
    · obtain rfl : to = 0 := by omega
      rw [passM_zero]; exact ⟨rfl, fun i hi => by omega⟩

theorem ceil_step {to size : Nat} (h : 0 < to) (hs : 0 < size) : (to - size + size - 1) / size + 1 ≤ (to + size - 1) / size := by
  by_cases h1 : size ≤ to
  · rw [show to + size - 1 = (to - size + size - 1) + size from by omega, Nat.add_div_right _ hs]
    exact Nat.le_refl _
  · rw [show to - size + size - 1 = size - 1 from by omega, Nat.div_eq_of_lt (by omega : size - 1 < size)]
    exact Nat.div_pos (by omega) hs

theorem passM_many (q : List Int → Bool) (size : Nat) (hs : 0 < size) : ∀ (fuel to : Nat) (l : List Int) (many : Nat), (passM q size fuel to l many).2 ≤ many + (to + size - 1) / size := by
  intro fuel
  induction fuel with
  | zero => intro to l many; exact Nat.le_add_right _ _
  | succ fuel ih =>
    intro to l many
    by_cases h0 : 0 < to
    · have hc := ceil_step h0 hs
      cases hq : q (withoutM l (to - size) to) with
      | true => rw [passM_yes h0 hq]; have := ih (to - size) (withoutM l (to - size) to) (many + 1); omega
      | false => rw [passM_no h0 hq]; have := ih (to - size) l (many + 1); omega
    · obtain rfl : to = 0 := by omega
      rw [passM_zero]; exact Nat.le_add_right _ _

def sizesB (n : Nat) : Nat → Nat → Nat
  | 0, _ => 0
  | fuel + 1, size => if size ≤ 1 then 0 else (n + size - 1) / size + sizesB n fuel (size / 2)

theorem sizesM_keeps (q : List Int → Bool) : ∀ (fuel size : Nat) (l : List Int) (many : Nat), q l = true → q (sizesM q fuel size l many).1 = true ∧ List.Sublist (sizesM q fuel size l many).1 l := by
  intro fuel
  induction fuel with
  | zero => intro size l many h; exact ⟨h, List.Sublist.refl _⟩
  | succ fuel ih =>
    intro size l many h
    by_cases h1 : 1 < size
    · rw [sizesM_on h1]
      obtain ⟨a, b⟩ := passM_keeps q size l.length l.length l many h
      obtain ⟨c, d⟩ := ih (size / 2) (passM q size l.length l.length l many).1 (passM q size l.length l.length l many).2 a
      exact ⟨c, d.trans b⟩
    · rw [sizesM_stop (by omega)]; exact ⟨h, List.Sublist.refl _⟩

theorem sizesM_many (q : List Int → Bool) (n : Nat) : ∀ (fuel size : Nat) (l : List Int) (many : Nat), l.length ≤ n → (sizesM q fuel size l many).2 ≤ many + sizesB n fuel size := by
  intro fuel
  induction fuel with
  | zero => intro size l many h; exact Nat.le_add_right _ _
  | succ fuel ih =>
    intro size l many h
    by_cases h1 : 1 < size
    · rw [sizesM_on h1, sizesB, if_neg (by omega)]
      have a := passM_many q size (by omega) l.length l.length l many
      have b := (passM_bounds q size l.length l.length l many (Nat.le_refl _) (Nat.le_refl _) (by omega)).2
      have c := ih (size / 2) (passM q size l.length l.length l many).1 (passM q size l.length l.length l many).2 (by omega)
      have d : (l.length + size - 1) / size ≤ (n + size - 1) / size := Nat.div_le_div_right (by omega)
      omega
    · rw [sizesM_stop (by omega)]; exact Nat.le_add_right _ _

theorem lastM_spec (q : List Int → Bool) : ∀ (fuel : Nat) (l : List Int) (many : Nat), l.length < fuel → q l = true →
    q (lastM q fuel l many).1 = true ∧ List.Sublist (lastM q fuel l many).1 l ∧ (∀ i, i < (lastM q fuel l many).1.length → q (withoutM (lastM q fuel l many).1 i (i + 1)) = false) ∧ (lastM q fuel l many).2 ≤ many + (l.length + 1) * l.length := by
  intro fuel
  induction fuel with
  | zero => intro l many h; omega
  | succ fuel ih =>
    intro l many hf h
    rw [lastM]
    obtain ⟨a, b⟩ := passM_keeps q 1 l.length l.length l many h
    have hb := passM_bounds q 1 l.length l.length l many (Nat.le_refl _) (Nat.le_refl _) (by omega)
    by_cases he : (passM q 1 l.length l.length l many).1.length = l.length
    · rw [if_pos he]
      obtain ⟨c, d⟩ := passM_same q l.length l.length l many (Nat.le_refl _) (Nat.le_refl _) he
      refine ⟨a, b, fun i hi => ?_, ?_⟩
      · rw [c] at hi ⊢; exact d i hi
      · have : l.length ≤ (l.length + 1) * l.length := Nat.le_mul_of_pos_left _ (by omega)
        omega
    · rw [if_neg he]
      generalize passM q 1 l.length l.length l many = r at *
      obtain ⟨c, d, e, f⟩ := ih r.1 r.2 (by omega) a
      refine ⟨c, d.trans b, e, ?_⟩
      have h1 : (r.1.length + 1) * r.1.length ≤ l.length * l.length := Nat.mul_le_mul (by omega) (by omega)
      rw [Nat.add_mul, Nat.one_mul]
      omega

theorem sizesB_le : ∀ n, n ≤ 30 → sizesB n n (n / 2) ≤ 2 * n + 1 := by decide

/-- What Min tells of a list of at most 30 numbers that has the fact. -/
theorem minM_spec {q : List Int → Bool} {l : List Int} (hl : l.length ≤ 30) (hq : q l = true) :
    (minM q l).2.2 = 0 ∧ q (minM q l).1 = true ∧ List.Sublist (minM q l).1 l ∧ (∀ i, i < (minM q l).1.length → q (withoutM (minM q l).1 i (i + 1)) = false) ∧ (minM q l).2.1 ≤ l.length * l.length + 3 * l.length + 2 := by
  have e : minM q l = ((lastM q ((sizesM q l.length (l.length / 2) l 1).1.length + 1) (sizesM q l.length (l.length / 2) l 1).1 (sizesM q l.length (l.length / 2) l 1).2).1,
      (lastM q ((sizesM q l.length (l.length / 2) l 1).1.length + 1) (sizesM q l.length (l.length / 2) l 1).1 (sizesM q l.length (l.length / 2) l 1).2).2, 0) := by
    unfold minM
    rw [if_neg (by omega), if_neg (by rw [hq]; simp)]
  obtain ⟨a, b⟩ := sizesM_keeps q l.length (l.length / 2) l 1 hq
  have c := sizesM_many q l.length l.length (l.length / 2) l 1 (Nat.le_refl _)
  have d := sizesB_le l.length hl
  rw [e]
  generalize sizesM q l.length (l.length / 2) l 1 = s at *
  obtain ⟨f, g, h, i⟩ := lastM_spec q (s.1.length + 1) s.1 s.2 (by omega) a
  refine ⟨rfl, f, g.trans b, h, ?_⟩
  have hs := b.length_le
  have h1 : (s.1.length + 1) * s.1.length ≤ (l.length + 1) * l.length := Nat.mul_le_mul (by omega) hs
  have h2 : (l.length + 1) * l.length = l.length * l.length + l.length := by rw [Nat.add_mul, Nat.one_mul]
  dsimp only
  omega

theorem minM_no {q : List Int → Bool} {l : List Int} (hl : l.length ≤ 200) (hq : q l = false) : minM q l = ([], 0, 8) := by
  unfold minM; rw [if_neg (by omega), if_pos hq]

theorem mem_without {l : List Int} {i : Nat} {x : Int} (h : x ∈ l) (hne : i < l.length → x ≠ l.getD i 0) : x ∈ withoutM l i (i + 1) := by
  unfold withoutM
  obtain ⟨j, hj, hx⟩ := List.getElem_of_mem h
  rw [List.mem_append]
  rcases Nat.lt_trichotomy j i with h1 | h1 | h1
  · exact .inl (List.mem_iff_getElem?.2 ⟨j, by rw [List.getElem?_take, if_pos h1, List.getElem?_eq_getElem hj, hx]⟩)
  · subst h1
    exact absurd hx.symm (by have := hne hj; rwa [show l.getD j 0 = l[j] from by simp [hj]] at this)
  · exact .inr (List.mem_iff_getElem?.2 ⟨j - (i + 1), by rw [List.getElem?_drop, show i + 1 + (j - (i + 1)) = j from by omega, List.getElem?_eq_getElem hj, hx]⟩)

/-- Of the fact that it has all of some numbers: each of these once, and no other. -/
theorem min_all {need m : List Int} (hq : (need.all fun x => decide (x ∈ m)) = true) (h1 : ∀ i, i < m.length → (need.all fun x => decide (x ∈ withoutM m i (i + 1))) = false) :
    ∀ i, i < m.length → m.getD i 0 ∈ need ∧ ¬ m.getD i 0 ∈ m.take i := by
  intro i hi
  have hall : ∀ x ∈ need, x ∈ m := by simpa using hq
  have hno := h1 i hi
  constructor
  · apply Classical.byContradiction
    intro hn
    have : (need.all fun x => decide (x ∈ withoutM m i (i + 1))) = true := by
      rw [List.all_eq_true]
      intro x hx
      exact decide_eq_true (mem_without (hall x hx) (fun _ e => hn (e ▸ hx)))
    rw [this] at hno; cases hno
  · intro hin
    have : (need.all fun x => decide (x ∈ withoutM m i (i + 1))) = true := by
      rw [List.all_eq_true]
      intro x hx
      refine decide_eq_true ?_
      by_cases e : x = m.getD i 0
      · rw [e]
        unfold withoutM
        exact List.mem_append.2 (.inl hin)
      · exact mem_without (hall x hx) (fun _ => e)
    rw [this] at hno; cases hno

theorem without_without (l : List Int) {a b c : Nat} (h1 : a ≤ b) (h2 : b ≤ c) (h3 : c ≤ l.length) : withoutM (withoutM l a b) a (a + c - b) = withoutM l a c := by
  unfold withoutM
  have ha : (l.take a).length = a := by simp; omega
  rw [List.take_append_of_le_length (by omega), List.take_of_length_le (by omega), List.drop_append, ha, List.drop_eq_nil_of_le (by omega), List.nil_append, List.drop_drop]
  congr 2
  omega

theorem without_take (l : List Int) {a b : Nat} (h1 : a ≤ b) (h2 : b ≤ l.length) : (withoutM l a b).take a = l.take a := by
  unfold withoutM
  have ha : (l.take a).length = a := by simp; omega
  rw [List.take_append_of_le_length (by omega), List.take_of_length_le (by omega)]

theorem without_drop (l : List Int) {a b : Nat} (h1 : a ≤ b) (h2 : b ≤ l.length) : (withoutM l a b).drop a = l.drop b := by
  unfold withoutM
  have ha : (l.take a).length = a := by simp; omega
  rw [List.drop_append, ha, List.drop_eq_nil_of_le (by omega), List.nil_append, Nat.sub_self, List.drop_zero]

theorem put_back (l : List Int) {a b : Nat} (h1 : a ≤ b) (h2 : b ≤ l.length) : (withoutM l a b).take a ++ (l.take b).drop a ++ (withoutM l a b).drop a = l := by
  rw [without_take l h1 h2, without_drop l h1 h2]
  have e : l.take b = l.take a ++ (l.take b).drop a := by
    conv => lhs; rw [← List.take_append_drop a (l.take b)]
    rw [List.take_take, Nat.min_eq_left h1]
  rw [← e, List.take_append_drop]

end Go.Proofs.Ytkhjppkhbiojoaa
