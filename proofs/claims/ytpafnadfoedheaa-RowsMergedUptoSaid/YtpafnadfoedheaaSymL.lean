/-
  The plain law of slices.symMergeCmpFunc: what its searches find, and what its parts make.
-/
import Derived.Test.YtpafnadfoedheaaStab
namespace Go.Proofs.Ytpafnadfoedheaa
open Go.Sort
section
variable {α : Type} [Inhabited α] {key : α → Int}

theorem bang_mid {d : Array α} {A X B : List α} (h : d.toList = A ++ X ++ B) {c : Nat} (hc : c < X.length) : d[A.length + c]! = X[c] := by
  obtain ⟨l⟩ := d
  dsimp only at h
  subst h
  rw [getElem!_pos _ _ (by simp; omega)]
  simp only [List.getElem_toArray]
  rw [List.getElem_append_left (by simp; omega), List.getElem_append_right (by omega)]
  simp only [Nat.add_sub_cancel_left]
/-- A sorted part, in the array's places. -/
theorem srt_mid {d : Array α} {A X B : List α} (h : d.toList = A ++ X ++ B) (hX : Srt key X) {p q : Nat} (hp : A.length ≤ p) (hpq : p ≤ q) (hq : q < A.length + X.length) : key d[p]! ≤ key d[q]! := by
  obtain ⟨i, rfl⟩ : ∃ i, p = A.length + i := ⟨p - A.length, by omega⟩
  obtain ⟨j, rfl⟩ : ∃ j, q = A.length + j := ⟨q - A.length, by omega⟩
  rw [bang_mid h (by omega), bang_mid h (by omega)]
  by_cases e : i = j
  · subst e; exact Int.le_refl _
  · exact List.pairwise_iff_getElem.1 hX i j (by omega) (by omega) (by omega)
theorem take_mid {d : Array α} {A X B : List α} (h : d.toList = A ++ X ++ B) {n : Nat} {p : α → Prop} (hn : n ≤ X.length) (H : ∀ c, A.length ≤ c → c < A.length + n → p d[c]!) : ∀ x ∈ X.take n, p x := by
  intro x hx
  obtain ⟨i, hi, rfl⟩ := List.getElem_of_mem hx
  have hi' : i < n := by simp at hi; omega
  rw [List.getElem_take, ← bang_mid h (by omega)]
  exact H _ (by omega) (by omega)
theorem drop_mid {d : Array α} {A X B : List α} (h : d.toList = A ++ X ++ B) {n : Nat} {p : α → Prop} (hn : n ≤ X.length) (H : ∀ c, A.length + n ≤ c → c < A.length + X.length → p d[c]!) : ∀ x ∈ X.drop n, p x := by
  intro x hx
  obtain ⟨i, hi, rfl⟩ := List.getElem_of_mem hx
  have hi' : n + i < X.length := by simp at hi; omega
  rw [List.getElem_drop, ← bang_mid h (by omega)]
  exact H _ (by omega) (by omega)

omit [Inhabited α] in
/-- One ahead of a sorted list, put behind those that are less. -/
theorem one_ahead {x : α} {Y1 Y2 : List α} (hY : Srt key (Y1 ++ Y2)) (h1 : ∀ y ∈ Y1, key y < key x) (h2 : ∀ y ∈ Y2, key x ≤ key y) : ssort key ([x] ++ (Y1 ++ Y2)) = Y1 ++ (x :: Y2) := by
  have := ssort_halves (key := key) (X1 := []) (X2 := [x]) (Y1 := Y1) (Y2 := Y2) (List.pairwise_singleton _ _) hY (by simp) (by simpa using h1)
  rw [List.nil_append, List.nil_append] at this
  rw [← this, ssort_srtd (List.pairwise_append.1 hY).1, ssort_srtd]
  · rfl
  · exact List.pairwise_cons.2 ⟨h2, (List.pairwise_append.1 hY).2.1⟩
omit [Inhabited α] in
/-- One behind a sorted list, put ahead of those that are greater. -/
theorem one_behind {y : α} {X1 X2 : List α} (hX : Srt key (X1 ++ X2)) (h1 : ∀ x ∈ X1, key x ≤ key y) (h2 : ∀ x ∈ X2, key y < key x) : ssort key ((X1 ++ X2) ++ [y]) = X1 ++ (y :: X2) := by
  have := ssort_halves (key := key) (X1 := X1) (X2 := X2) (Y1 := [y]) (Y2 := []) hX (by simp [Srt]) (by simp) (by simpa using h2)
  rw [List.append_nil, List.append_nil] at this
  rw [← this, ssort_srtd (l := X2) (List.pairwise_append.1 hX).2.1, ssort_srtd]
  · simp
  · exact List.pairwise_append.2 ⟨(List.pairwise_append.1 hX).1, List.pairwise_singleton _ _, fun x hx z hz => by rw [List.mem_singleton.1 hz]; exact h1 x hx⟩
/-- One step of the loop that carries x behind the lesser ones. -/
theorem shift_up {d : Array α} {A Y R : List α} {x : α} {t : Nat} (h : d.toList = A ++ (Y.take t ++ x :: (Y.drop t ++ R))) (ht : t < Y.length) : (swp d (A.length + t) (A.length + t + 1)).toList = A ++ (Y.take (t + 1) ++ x :: (Y.drop (t + 1) ++ R)) := by
  obtain ⟨y, e1, e2⟩ : ∃ y, Y.drop t = y :: Y.drop (t + 1) ∧ Y.take (t + 1) = Y.take t ++ [y] := ⟨Y[t], List.drop_eq_getElem_cons ht, List.take_succ_eq_append_getElem ht⟩
  have hl : d.toList = (A ++ Y.take t) ++ x :: ([] ++ y :: (Y.drop (t + 1) ++ R)) := by rw [h, e1]; simp
  rw [swp_at hl (by simp; omega) (by simp; omega), e2]
  simp
/-- One step of the loop that carries y ahead of the greater ones. -/
theorem shift_dn {d : Array α} {A X R : List α} {y : α} {t : Nat} (h : d.toList = A ++ (X.take (t + 1) ++ y :: (X.drop (t + 1) ++ R))) (ht : t < X.length) : (swp d (A.length + t + 1) (A.length + t)).toList = A ++ (X.take t ++ y :: (X.drop t ++ R)) := by
  obtain ⟨x, e1, e2⟩ : ∃ x, X.drop t = x :: X.drop (t + 1) ∧ X.take (t + 1) = X.take t ++ [x] := ⟨X[t], List.drop_eq_getElem_cons ht, List.take_succ_eq_append_getElem ht⟩
  have hl : d.toList = (A ++ X.take t) ++ x :: ([] ++ y :: (X.drop (t + 1) ++ R)) := by rw [h, e2]; simp
  have hs : d.size = A.length + X.length + R.length + 1 := by rw [← Array.length_toList, h]; simp; omega
  rw [swp_comm d (by omega) (by omega), swp_at hl (by simp; omega) (by simp; omega), e1]
  simp
/-- Behind the search: the lesser halves, the greater halves. -/
theorem parts_of {d : Array α} {A X Y B : List α} (h : d.toList = A ++ X ++ Y ++ B) (sX : Srt key X) (sY : Srt key Y) {a m b mid lo hi i e : Nat} (ha : a = A.length) (hm : m = A.length + X.length) (hb : b = A.length + X.length + Y.length)
    (hlh : (mid < m ∧ lo + b = mid + m ∧ hi = mid) ∨ (m ≤ mid ∧ lo = a ∧ hi = m)) (h1 : lo ≤ i) (h2 : i ≤ hi) (hai : a ≤ i) (hme : m ≤ e) (heb : e ≤ b) (he : e + i = mid + m)
    (I1 : ∀ c, lo ≤ c → c < i → key d[c]! ≤ key d[mid + m - 1 - c]!) (I2 : ∀ c, i ≤ c → c < hi → key d[mid + m - 1 - c]! < key d[c]!) :
    (∀ x ∈ X.take (i - a), ∀ y ∈ Y.drop (e - m), key x ≤ key y) ∧ (∀ y ∈ Y.take (e - m), ∀ x ∈ X.drop (i - a), key y < key x) := by
  have him : i ≤ m := by omega
  have h' : d.toList = A ++ X ++ (Y ++ B) := by rw [h]; simp
  have h'' : d.toList = (A ++ X) ++ Y ++ B := h
  have hl : (A ++ X).length = m := by simp; omega
  constructor
  · by_cases hi0 : i = lo
    · rcases hlh with ⟨q1, q2, q3⟩ | ⟨q1, q2, q3⟩
      · have : Y.drop (e - m) = [] := List.drop_of_length_le (by omega)
        rw [this]; intro x hx y hy; exact absurd hy List.not_mem_nil
      · rw [show i - a = 0 from by omega]; intro x hx; exact absurd hx List.not_mem_nil
    · have hk := I1 (i - 1) (by omega) (by omega)
      rw [show mid + m - 1 - (i - 1) = e from by omega] at hk
      intro x hx y hy
      have e1 := take_mid (p := fun x => key x ≤ key d[i - 1]!) h' (n := i - a) (by omega) (fun c c1 c2 => srt_mid h' sX c1 (by omega) (by omega)) x hx
      by_cases hlt : e < b
      · have e2 := drop_mid (p := fun y => key d[e]! ≤ key y) h'' (n := e - m) (by omega) (fun c c1 c2 => srt_mid h'' sY (by omega) (by omega) (by omega)) y hy
        omega
      · have : Y.drop (e - m) = [] := List.drop_of_length_le (by omega)
        rw [this] at hy; exact absurd hy List.not_mem_nil
  · by_cases hi0 : i = hi
    · rcases hlh with ⟨q1, q2, q3⟩ | ⟨q1, q2, q3⟩
      · rw [show e - m = 0 from by omega]; intro x hx; exact absurd hx List.not_mem_nil
      · have : X.drop (i - a) = [] := List.drop_of_length_le (by omega)
        rw [this]; intro y hy x hx; exact absurd hx List.not_mem_nil
    · have hk := I2 i (by omega) (by omega)
      intro y hy x hx
      by_cases hlt : m < e
      · rw [show mid + m - 1 - i = e - 1 from by omega] at hk
        have e1 := take_mid (p := fun y => key y ≤ key d[e - 1]!) h'' (n := e - m) (by omega) (fun c c1 c2 => srt_mid h'' sY c1 (by omega) (by omega)) y hy
        have e2 := drop_mid (p := fun x => key d[i]! ≤ key x) h' (n := i - a) (by omega) (fun c c1 c2 => srt_mid h' sX (by omega) (by omega) (by omega)) x hx
        omega
      · rw [show e - m = 0 from by omega] at hy; exact absurd hy List.not_mem_nil
end
end Go.Proofs.Ytpafnadfoedheaa
