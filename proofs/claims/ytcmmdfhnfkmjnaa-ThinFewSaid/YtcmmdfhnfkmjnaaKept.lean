/-
  Which places are kept: the plain law.
-/
import Derived.Lib.SlicesCompact
namespace Go.Proofs.Ytcmmdfhnfkmjnaa
open Go.Lib

theorem rising_ext : ∀ {a b : List Int}, a.Pairwise (· < ·) → b.Pairwise (· < ·) → (∀ x, x ∈ a ↔ x ∈ b) → a = b
  | [], [], _, _, _ => rfl
  | [], y :: b, _, _, h => absurd ((h y).2 (by simp)) (by simp)
  | x :: a, [], _, _, h => absurd ((h x).1 (by simp)) (by simp)
  | x :: a, y :: b, ha, hb, h => by
    rw [List.pairwise_cons] at ha hb
    have hxy : x = y := by
      rcases List.mem_cons.1 ((h x).1 (by simp)) with e | e
      · exact e
      · rcases List.mem_cons.1 ((h y).2 (by simp)) with e' | e'
        · exact e'.symm
        · have h1 := hb.1 x e; have h2 := ha.1 y e'; omega
    subst hxy
    congr 1
    refine rising_ext ha.2 hb.2 fun z => ?_
    constructor
    · intro hz
      rcases List.mem_cons.1 ((h z).1 (by simp [hz])) with e | e
      · have := ha.1 z hz; omega
      · exact e
    · intro hz
      rcases List.mem_cons.1 ((h z).2 (by simp [hz])) with e | e
      · have := hb.1 z hz; omega
      · exact e
theorem rising_first {l : List Int} (hl : l.Pairwise (· < ·)) {x : Int} (hx : x ∈ l) (h : ∀ y ∈ l, x ≤ y) : l.getD 0 0 = x := by
  cases l with
  | nil => simp at hx
  | cons a l =>
    rw [List.pairwise_cons] at hl
    rcases List.mem_cons.1 hx with e | e
    · exact e.symm
    · have h1 := hl.1 x e; have h2 := h a (by simp); omega
theorem rising_last {l : List Int} (hl : l.Pairwise (· < ·)) {x : Int} (hx : x ∈ l) (h : ∀ y ∈ l, y ≤ x) : l.getD (l.length - 1) 0 = x := by
  obtain ⟨i, hi, e⟩ := List.getElem_of_mem hx
  by_cases hlast : i = l.length - 1
  · subst hlast; rw [List.getD_eq_getElem?_getD, List.getElem?_eq_getElem hi]; exact e
  · have h1 := List.pairwise_iff_getElem.1 hl i (l.length - 1) hi (by omega) (by omega)
    have h2 := h _ (List.getElem_mem (show l.length - 1 < l.length by omega))
    omega

/-- Of n is x kept? -/
def kpB (n x : Nat) : Bool := x == 0 || x == n || (List.range (n + 1)).any fun k => decide (2 ^ k ≤ n) && (x == n - n % 2 ^ k || x == n - n % 2 ^ k - 2 ^ k)
def Kp (n x : Nat) : Prop := x = 0 ∨ x = n ∨ ∃ k, 2 ^ k ≤ n ∧ (x = n - n % 2 ^ k ∨ x = n - n % 2 ^ k - 2 ^ k)
theorem kpB_iff {n x : Nat} : kpB n x = true ↔ Kp n x := by
  unfold kpB Kp
  simp only [Bool.or_eq_true, beq_iff_eq, List.any_eq_true, List.mem_range, Bool.and_eq_true, decide_eq_true_eq]
  constructor
  · rintro ((h | h) | ⟨k, -, h1, h2⟩)
    · exact .inl h
    · exact .inr (.inl h)
    · exact .inr (.inr ⟨k, h1, h2⟩)
  · rintro (h | h | ⟨k, h1, h2⟩)
    · exact .inl (.inl h)
    · exact .inl (.inr h)
    · exact .inr ⟨k, by have := Nat.lt_two_pow_self (n := k); omega, h1, h2⟩
theorem Kp.le {n x : Nat} (h : Kp n x) : x ≤ n := by
  rcases h with h | h | ⟨k, -, h | h⟩ <;> omega
/-- What is kept of n, rising. -/
def keptL (n : Nat) : List Int := ((List.range (n + 1)).filter (kpB n)).map fun i : Nat => (i : Int)
theorem mem_kept {n : Nat} {x : Int} : x ∈ keptL n ↔ ∃ y : Nat, x = y ∧ Kp n y := by
  unfold keptL
  simp only [List.mem_map, List.mem_filter, List.mem_range, kpB_iff]
  constructor
  · rintro ⟨y, ⟨-, h⟩, rfl⟩; exact ⟨y, rfl, h⟩
  · rintro ⟨y, rfl, h⟩; exact ⟨y, ⟨by have := h.le; omega, h⟩, rfl⟩
theorem kept_rising (n : Nat) : (keptL n).Pairwise (· < ·) := by
  unfold keptL
  rw [List.pairwise_map]
  exact (List.Pairwise.imp (R := (· < ·)) (fun h => by omega) List.pairwise_lt_range).filter _
theorem kept_zero (n : Nat) : (0 : Int) ∈ keptL n := mem_kept.2 ⟨0, rfl, .inl rfl⟩
theorem kept_self (n : Nat) : (n : Int) ∈ keptL n := mem_kept.2 ⟨n, rfl, .inr (.inl rfl)⟩
theorem kept_between {n : Nat} {x : Int} (h : x ∈ keptL n) : 0 ≤ x ∧ x ≤ n := by
  obtain ⟨y, rfl, hy⟩ := mem_kept.1 h
  have := hy.le; omega
theorem kept_first (n : Nat) : (keptL n).getD 0 0 = 0 := rising_first (kept_rising n) (kept_zero n) fun _ hy => (kept_between hy).1
theorem kept_last (n : Nat) : (keptL n).getD ((keptL n).length - 1) 0 = n := rising_last (kept_rising n) (kept_self n) fun _ hy => (kept_between hy).2
theorem kept_len (n : Nat) : (keptL n).length ≤ n + 1 := by
  unfold keptL
  rw [List.length_map]
  exact Nat.le_trans (List.length_filter_le _ _) (by simp)
theorem kept_pos (n : Nat) : 0 < (keptL n).length := List.length_pos_of_mem (kept_zero n)

/-! ### As it is made -/
def rawL (n : Nat) : Nat → List Int
  | 0 => [0, (n : Int)]
  | K + 1 => rawL n K ++ [((n - n % 2 ^ K : Nat) : Int), ((n - n % 2 ^ K - 2 ^ K : Nat) : Int)]
theorem raw_length (n K : Nat) : (rawL n K).length = 2 + 2 * K := by
  induction K with
  | zero => rfl
  | succ K ih => rw [rawL, List.length_append, ih]; simp; omega
theorem mem_raw {n K : Nat} {x : Int} : x ∈ rawL n K ↔ x = 0 ∨ x = n ∨ ∃ k, k < K ∧ (x = ((n - n % 2 ^ k : Nat) : Int) ∨ x = ((n - n % 2 ^ k - 2 ^ k : Nat) : Int)) := by
  induction K with
  | zero => simp [rawL]
  | succ K ih =>
    rw [rawL, List.mem_append, ih]
    constructor
    · rintro ((h | h | ⟨k, hk, h⟩) | h)
      · exact .inl h
      · exact .inr (.inl h)
      · exact .inr (.inr ⟨k, by omega, h⟩)
      · refine .inr (.inr ⟨K, by omega, ?_⟩)
        simpa using h
    · rintro (h | h | ⟨k, hk, h⟩)
      · exact .inl (.inl h)
      · exact .inl (.inr (.inl h))
      · rcases Nat.lt_or_ge k K with h1 | h1
        · exact .inl (.inr (.inr ⟨k, h1, h⟩))
        · obtain rfl : k = K := by omega
          exact .inr (by simpa using h)
/-- K: how many powers of two there are up to n. -/
def Pows (n K : Nat) : Prop := ∀ k, 2 ^ k ≤ n ↔ k < K
theorem pows_of {n K : Nat} (h : n < 2 ^ K) (h2 : ∀ k, k < K → 2 ^ k ≤ n) : Pows n K := fun k => by
  refine ⟨fun hk => ?_, h2 k⟩
  rcases Nat.lt_or_ge k K with h3 | h3
  · exact h3
  · have := Nat.pow_le_pow_right (n := 2) (by omega) h3; omega
theorem raw_mem {n K : Nat} (h : Pows n K) {x : Int} : x ∈ rawL n K ↔ x ∈ keptL n := by
  rw [mem_raw, mem_kept]
  constructor
  · rintro (rfl | rfl | ⟨k, hk, e | e⟩)
    · exact ⟨0, rfl, .inl rfl⟩
    · exact ⟨n, rfl, .inr (.inl rfl)⟩
    · exact ⟨_, e, .inr (.inr ⟨k, (h k).2 hk, .inl rfl⟩)⟩
    · exact ⟨_, e, .inr (.inr ⟨k, (h k).2 hk, .inr rfl⟩)⟩
  · rintro ⟨y, rfl, rfl | rfl | ⟨k, hk, rfl | rfl⟩⟩
    · exact .inl rfl
    · exact .inr (.inl rfl)
    · exact .inr (.inr ⟨k, (h k).1 hk, .inl rfl⟩)
    · exact .inr (.inr ⟨k, (h k).1 hk, .inr rfl⟩)

theorem compact_upto {d : Array Int} (hs : ∀ i j, i ≤ j → j < d.size → d[i]! ≤ d[j]!) : ∀ m, m ≤ d.size → (compactUpTo d m).Pairwise (· < ·) ∧ ∀ x, x ∈ compactUpTo d m ↔ ∃ j, j < m ∧ d[j]! = x
  | 0, _ => by simp [compactUpTo]
  | m + 1, hm => by
    obtain ⟨h1, h2⟩ := compact_upto hs m (by omega)
    rw [compactUpTo_succ]
    by_cases hk : keeps d m = true
    · rw [if_pos hk]
      refine ⟨?_, fun x => ?_⟩
      · rw [List.pairwise_append]
        refine ⟨h1, by simp, fun a ha b hb => ?_⟩
        obtain rfl := List.mem_singleton.1 hb
        obtain ⟨j, hj, rfl⟩ := (h2 a).1 ha
        have hne : d[m]! ≠ d[m - 1]! := by
          have := of_decide_eq_true hk
          rcases this with h | h
          · omega
          · exact h
        have a1 := hs j (m - 1) (by omega) (by omega)
        have a2 := hs (m - 1) m (by omega) (by omega)
        omega
      · rw [List.mem_append, h2, List.mem_singleton]
        constructor
        · rintro (⟨j, hj, e⟩ | rfl)
          · exact ⟨j, by omega, e⟩
          · exact ⟨m, by omega, rfl⟩
        · rintro ⟨j, hj, e⟩
          rcases Nat.lt_or_ge j m with h3 | h3
          · exact .inl ⟨j, h3, e⟩
          · obtain rfl : j = m := by omega
            exact .inr e.symm
    · rw [if_neg hk, List.append_nil]
      refine ⟨h1, fun x => ?_⟩
      rw [h2]
      have hne : m ≠ 0 ∧ d[m]! = d[m - 1]! := by
        have := mt decide_eq_true hk
        exact ⟨fun h => this (.inl h), Classical.byContradiction fun h => this (.inr h)⟩
      constructor
      · rintro ⟨j, hj, e⟩; exact ⟨j, by omega, e⟩
      · rintro ⟨j, hj, e⟩
        rcases Nat.lt_or_ge j m with h3 | h3
        · exact ⟨j, h3, e⟩
        · obtain rfl : j = m := by omega
          exact ⟨j - 1, by omega, hne.2.symm.trans e⟩
theorem compact_sorted {zs : List Int} (h : zs.Pairwise (· ≤ ·)) : (compact zs).Pairwise (· < ·) ∧ ∀ x, x ∈ compact zs ↔ x ∈ zs := by
  have hs : ∀ i j, i ≤ j → j < zs.toArray.size → zs.toArray[i]! ≤ zs.toArray[j]! := fun i j hij hj => by
    have hj' : j < zs.length := by simpa using hj
    rw [getElem!_pos zs.toArray i (by simp; omega), getElem!_pos zs.toArray j hj]
    rcases Nat.lt_or_ge i j with h1 | h1
    · have := List.pairwise_iff_getElem.1 h i j (by omega) hj' h1
      simpa using this
    · obtain rfl : i = j := by omega
      exact Int.le_refl _
  obtain ⟨h1, h2⟩ := compact_upto hs zs.length (by simp)
  refine ⟨h1, fun x => ?_⟩
  show x ∈ compactUpTo zs.toArray zs.length ↔ _
  rw [h2]
  constructor
  · rintro ⟨j, hj, rfl⟩
    rw [getElem!_pos zs.toArray j (by simpa using hj)]
    simp
  · intro hx
    obtain ⟨i, hi, rfl⟩ := List.getElem_of_mem hx
    refine ⟨i, hi, ?_⟩
    rw [getElem!_pos zs.toArray i (by simpa using hi)]
    simp
theorem compact_le (zs : List Int) : (compact zs).length ≤ zs.length := by
  unfold compact compactUpTo
  rw [List.length_map]
  exact Nat.le_trans (List.length_filter_le _ _) (by simp)
abbrev srt (l : List Int) : List Int := l.mergeSort fun x y => decide (x ≤ y)
theorem srt_sorted (l : List Int) : (srt l).Pairwise (· ≤ ·) := by
  have := List.pairwise_mergeSort (le := fun x y : Int => decide (x ≤ y)) (fun a b c h1 h2 => by simp at *; omega) (fun a b => by simp; omega) l
  exact this.imp fun h => by simpa using h
theorem kept_eq {n K : Nat} (h : Pows n K) : compact (srt (rawL n K)) = keptL n := by
  obtain ⟨h1, h2⟩ := compact_sorted (srt_sorted (rawL n K))
  exact rising_ext h1 (kept_rising n) fun x => by rw [h2, List.mem_mergeSort, raw_mem h]
theorem kept_many {n K : Nat} (h : Pows n K) : (keptL n).length ≤ 2 + 2 * K := by
  rw [← kept_eq h, ← raw_length n K]
  exact Nat.le_trans (compact_le _) (by rw [List.length_mergeSort]; exact Nat.le_refl _)

/-! ### One more -/
theorem mod_pred {n p : Nat} (hp : 0 < p) (hn : 0 < n) : (n % p ≠ 0 → (n - 1) - (n - 1) % p = n - n % p) ∧ (n % p = 0 → (n - 1) - (n - 1) % p = n - p ∧ p ≤ n) := by
  have h1 := Nat.div_add_mod n p
  have h2 := Nat.mod_lt n hp
  refine ⟨fun h => ?_, fun h => ?_⟩
  · have e : n - 1 = n % p - 1 + p * (n / p) := by omega
    have : (n - 1) % p = n % p - 1 := by rw [e, Nat.add_mul_mod_self_left, Nat.mod_eq_of_lt (by omega)]
    omega
  · have hq : n / p ≠ 0 := by intro h0; rw [h0] at h1; omega
    obtain ⟨q, hq⟩ := Nat.exists_eq_succ_of_ne_zero hq
    rw [hq, Nat.succ_eq_add_one, Nat.mul_add, Nat.mul_one] at h1
    have e : n - 1 = p - 1 + p * q := by omega
    have : (n - 1) % p = p - 1 := by rw [e, Nat.add_mul_mod_self_left, Nat.mod_eq_of_lt (by omega)]
    omega
theorem kp_step {n x : Nat} (hn : 0 < n) (h : Kp n x) : x = n ∨ Kp (n - 1) x := by
  rcases h with h | h | ⟨k, hk, h⟩
  · exact .inr (.inl h)
  · exact .inl h
  · have hp : 0 < 2 ^ k := Nat.two_pow_pos k
    obtain ⟨m1, m2⟩ := mod_pred hp hn
    have hlt := Nat.mod_lt n hp
    by_cases hz : n % 2 ^ k = 0
    · obtain ⟨e1, e2⟩ := m2 hz
      rcases h with h | h
      · exact .inl (by omega)
      · by_cases hpn : 2 ^ k = n
        · exact .inr (.inl (by omega))
        · exact .inr (.inr (.inr ⟨k, by omega, .inl (by omega)⟩))
    · have e := m1 hz
      have hkn : 2 ^ k ≠ n := fun h => hz (by rw [h, Nat.mod_self])
      rcases h with h | h
      · exact .inr (.inr (.inr ⟨k, by omega, .inl (by omega)⟩))
      · exact .inr (.inr (.inr ⟨k, by omega, .inr (by omega)⟩))
/-- Those that go. -/
def goneL (n : Nat) : List Int := (keptL (n - 1)).filter fun x => !decide (x ∈ keptL n)
theorem kept_split {n : Nat} (hn : 0 < n) : keptL n = (keptL (n - 1)).filter (fun x => decide (x ∈ keptL n)) ++ [(n : Int)] := by
  refine rising_ext (kept_rising n) ?_ fun x => ?_
  · rw [List.pairwise_append]
    refine ⟨(kept_rising (n - 1)).filter _, by simp, fun a ha b hb => ?_⟩
    obtain rfl := List.mem_singleton.1 hb
    have := kept_between (List.mem_filter.1 ha).1
    omega
  · rw [List.mem_append, List.mem_filter, decide_eq_true_eq, List.mem_singleton]
    constructor
    · intro h
      obtain ⟨y, rfl, hy⟩ := mem_kept.1 h
      rcases kp_step hn hy with e | e
      · exact .inr (by omega)
      · exact .inl ⟨mem_kept.2 ⟨y, rfl, e⟩, h⟩
    · rintro (⟨-, h⟩ | rfl)
      · exact h
      · exact kept_self n
theorem filter_both (p : Int → Bool) (l : List Int) : (l.filter p).length + (l.filter fun x => !p x).length = l.length := by
  induction l with
  | nil => rfl
  | cons a l ih =>
    rw [List.filter_cons, List.filter_cons]
    cases p a <;> simp <;> omega
theorem gone_len {n : Nat} (hn : 0 < n) : (keptL n).length + (goneL n).length = (keptL (n - 1)).length + 1 := by
  have h1 := congrArg List.length (kept_split hn)
  have h2 := filter_both (fun x => decide (x ∈ keptL n)) (keptL (n - 1))
  rw [List.length_append] at h1
  unfold goneL
  simp only [List.length_singleton] at h1
  omega

/-! ### The nearest -/
theorem pow_between {d : Nat} (h : 0 < d) : ∃ k, 2 ^ k ≤ d ∧ d < 2 ^ (k + 1) := ⟨Nat.log2 d, Nat.log2_self_le (by omega), Nat.lt_log2_self⟩
theorem near {n at_ : Nat} (h : at_ ≤ n) : ∃ y, Kp n y ∧ y ≤ at_ ∧ at_ - y < 2 * (n - at_ + 1) := by
  rcases Nat.lt_or_ge at_ n with h1 | h1
  · obtain ⟨k, hk1, hk2⟩ := pow_between (d := n - at_) (by omega)
    have hp : 0 < 2 ^ k := Nat.two_pow_pos k
    have hlt := Nat.mod_lt n hp
    by_cases hy : n - n % 2 ^ k - 2 ^ k ≤ at_
    · exact ⟨_, .inr (.inr ⟨k, by omega, .inr rfl⟩), hy, by rw [Nat.pow_succ] at hk2; omega⟩
    · by_cases h2 : 2 ^ (k + 1) ≤ n
      · refine ⟨_, .inr (.inr ⟨k + 1, h2, .inr rfl⟩), ?_⟩
        have hlt2 := Nat.mod_lt n (Nat.two_pow_pos (k + 1))
        have e : n % 2 ^ k = n % 2 ^ (k + 1) % 2 ^ k := (Nat.mod_mod_of_dvd n (Nat.pow_dvd_pow 2 (by omega))).symm
        rw [Nat.pow_succ] at *
        generalize 2 ^ k = p at *
        generalize n % (p * 2) = x at *
        have : x % p = x ∨ x % p = x - p := by
          rcases Nat.lt_or_ge x p with h3 | h3
          · exact .inl (Nat.mod_eq_of_lt h3)
          · right; rw [Nat.mod_eq_sub_mod h3, Nat.mod_eq_of_lt (by omega)]
        omega
      · exact ⟨0, .inl rfl, by omega, by rw [Nat.pow_succ] at *; omega⟩
  · obtain rfl : at_ = n := by omega
    exact ⟨at_, .inr (.inl rfl), by omega, by omega⟩
end Go.Proofs.Ytcmmdfhnfkmjnaa
