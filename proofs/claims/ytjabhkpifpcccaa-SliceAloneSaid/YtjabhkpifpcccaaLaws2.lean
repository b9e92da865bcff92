/-
  The plain laws of the package slice: a slice that is run alone.
-/
import Derived.Test.YtjabhkpifpcccaaLaws
namespace Go.Proofs.Ytjabhkpifpcccaa

theorem lastTo_some {l : List Ln} {y : Int} {j : Nat} : ∀ {k : Nat}, lastTo l k y = some j ↔ j < k ∧ (l.getD j .z).t = y ∧ ∀ i, j < i → i < k → (l.getD i .z).t ≠ y := by
  intro k
  induction k with
  | zero => simp [lastTo]
  | succ k ih =>
    unfold lastTo
    by_cases h : y = (l.getD k .z).t
    · rw [if_pos h]
      constructor
      · intro e
        obtain rfl : k = j := by simpa using e
        exact ⟨by omega, h.symm, fun i h1 h2 => by omega⟩
      · rintro ⟨h1, h2, h3⟩
        rcases Nat.lt_or_ge j k with h4 | h4
        · exact absurd h.symm (h3 k h4 (by omega))
        · rw [show j = k from by omega]
    · rw [if_neg h, ih]
      constructor
      · rintro ⟨h1, h2, h3⟩
        refine ⟨by omega, h2, fun i h4 h5 => ?_⟩
        by_cases e : i = k
        · subst e; exact fun e => h e.symm
        · exact h3 i h4 (by omega)
      · rintro ⟨h1, h2, h3⟩
        refine ⟨?_, h2, fun i h4 h5 => h3 i h4 (by omega)⟩
        by_cases e : j = k
        · subst e; exact absurd h2.symm h
        · omega
theorem lastTo_none {l : List Ln} {y : Int} : ∀ {k : Nat}, lastTo l k y = none ↔ ∀ i, i < k → (l.getD i .z).t ≠ y := by
  intro k
  induction k with
  | zero => simp [lastTo]
  | succ k ih =>
    unfold lastTo
    by_cases h : y = (l.getD k .z).t
    · rw [if_pos h]
      exact ⟨fun e => (by cases e), fun h2 => absurd h.symm (h2 k (by omega))⟩
    · rw [if_neg h, ih]
      constructor
      · intro h2 i hi
        by_cases e : i = k
        · subst e; exact fun e => h e.symm
        · exact h2 i (by omega)
      · exact fun h2 i hi => h2 i (by omega)

theorem ln_mem {l : List Ln} {k : Nat} (h : k < l.length) : l.getD k .z ∈ l := by
  rw [List.getD_eq_getElem?_getD, List.getElem?_eq_getElem h]
  exact List.getElem_mem h
theorem map_getD {I : List Nat} {f : Nat → Ln} {q : Nat} (h : q < I.length) : (I.map f).getD q .z = f (I.getD q 0) := by
  rw [List.getD_eq_getElem?_getD, List.getElem?_map, List.getElem?_eq_getElem h, List.getD_eq_getElem?_getD, List.getElem?_eq_getElem h]; rfl
/-- What line k puts. -/
def valAt (l : List Ln) (k : Nat) : Int := opv (runE (l.take k)) (l.getD k .z)
theorem runE_at {l : List Ln} (y : Int) : ∀ {k : Nat}, k ≤ l.length → runE (l.take k) y = match lastTo l k y with | some j => valAt l j | none => 0 := by
  intro k
  induction k with
  | zero => intro _; simp [runE, lastTo]
  | succ k ih =>
    intro hk
    rw [runE_succ (by omega)]
    unfold stepE lastTo
    by_cases h : y = (l.getD k .z).t
    · rw [if_pos h, if_pos h]; rfl
    · rw [if_neg h, if_neg h]
      exact ih (by omega)
theorem runM_eq {l : List Ln} {n : Nat} (h : rightM l n = 0) : runM l n = (valAt l n, 0) := by
  obtain ⟨-, -, -, h2⟩ := rightM_zero h
  have hn : n < l.length := by omega
  unfold runM
  rw [if_pos h, Int.toNat_natCast, runE_at _ (by omega)]
  have : lastTo l (n + 1) (l.getD n .z).t = some n := lastTo_some.2 ⟨by omega, rfl, fun i h1 h2 => by omega⟩
  rw [this]
theorem valAt_congr {l m : List Ln} {k q : Nat} (hx : m.getD q .z = l.getD k .z) (hE : (l.getD k .z).o < 3 → runE (m.take q) (l.getD k .z).a = runE (l.take k) (l.getD k .z).a ∧ runE (m.take q) (l.getD k .z).b = runE (l.take k) (l.getD k .z).b) : valAt m q = valAt l k := by
  unfold valAt opv
  rw [hx]
  by_cases h3 : (l.getD k .z).o < 3
  · obtain ⟨h1, h2⟩ := hE h3
    rw [h1, h2]
  · rw [if_neg (by omega), if_neg (by omega), if_neg (by omega), if_neg (by omega), if_neg (by omega), if_neg (by omega)]

/-! ### The lines that are left -/
/-- m: the lines of l at the places I, which rise; they bear with them who put last what they use. -/
structure Part_ (l m : List Ln) (I : List Nat) : Prop where
  len : m.length = I.length
  sorted : I.Pairwise (· < ·)
  lt : ∀ k ∈ I, k < l.length
  at_ : ∀ q, q < I.length → m.getD q .z = l.getD (I.getD q 0) .z
  closed : ∀ k ∈ I, ∀ y ∈ usesL l k, y.toNat ∈ I
section
variable {l m : List Ln} {I : List Nat}
theorem nat_get {I : List Nat} {k : Nat} (h : k ∈ I) : ∃ q, q < I.length ∧ I.getD q 0 = k := by
  obtain ⟨q, hq, rfl⟩ := List.getElem_of_mem h
  exact ⟨q, hq, by simp [hq]⟩
theorem nat_mem {I : List Nat} {q : Nat} (h : q < I.length) : I.getD q 0 ∈ I := by simp [h]
theorem Part_.mono (h : Part_ l m I) {p q : Nat} (hpq : p < q) (hq : q < I.length) : I.getD p 0 < I.getD q 0 := by
  rw [List.getD_eq_getElem?_getD, List.getD_eq_getElem?_getD, List.getElem?_eq_getElem hq, List.getElem?_eq_getElem (by omega)]
  exact List.pairwise_iff_getElem.1 h.sorted p q (by omega) hq hpq
theorem Part_.mono' (h : Part_ l m I) {p q : Nat} (hp : p < I.length) (hq : q < I.length) (hlt : I.getD p 0 < I.getD q 0) : p < q := by
  rcases Nat.lt_trichotomy p q with h1 | h1 | h1
  · exact h1
  · subst h1; omega
  · have := h.mono h1 hp; omega
theorem mem_uses {k : Nat} {y : Int} {j : Nat} (ho : (l.getD k .z).o < 3) (hy : y = (l.getD k .z).a ∨ y = (l.getD k .z).b) (hj : lastTo l k y = some j) : (j : Int) ∈ usesL l k := by
  unfold usesL
  rw [List.mem_append]
  rcases hy with rfl | rfl
  · left; unfold useOf; rw [if_pos ho, hj]; simp
  · right; unfold useOf; rw [if_pos ho, hj]; simp
/-- Who put last what a line uses is the same. -/
theorem Part_.last (h : Part_ l m I) {q : Nat} (hq : q < I.length) {y : Int} (ho : (l.getD (I.getD q 0) .z).o < 3) (hy : y = (l.getD (I.getD q 0) .z).a ∨ y = (l.getD (I.getD q 0) .z).b) :
    (∀ j, lastTo l (I.getD q 0) y = some j → ∃ r, r < q ∧ I.getD r 0 = j ∧ lastTo m q y = some r) ∧ (lastTo l (I.getD q 0) y = none → lastTo m q y = none) := by
  constructor
  · intro j hj
    have hju := mem_uses ho hy hj
    have hjI := h.closed _ (nat_mem hq) _ hju
    rw [Int.toNat_natCast] at hjI
    obtain ⟨r, hr, hrj⟩ := nat_get hjI
    obtain ⟨h1, h2, h3⟩ := lastTo_some.1 hj
    have hrq := h.mono' hr hq (by omega)
    refine ⟨r, hrq, hrj, lastTo_some.2 ⟨hrq, by rw [h.at_ r hr, hrj]; exact h2, fun i hi1 hi2 => ?_⟩⟩
    rw [h.at_ i (by omega)]
    refine h3 _ ?_ ?_
    · rw [← hrj]; exact h.mono hi1 (by omega)
    · exact h.mono hi2 hq
  · intro hn
    rw [lastTo_none] at hn ⊢
    intro i hi
    rw [h.at_ i (by omega)]
    exact hn _ (h.mono hi hq)
theorem Part_.val (h : Part_ l m I) : ∀ q, q < I.length → valAt m q = valAt l (I.getD q 0) := by
  intro q
  induction q using Nat.strongRecOn with
  | _ q ih =>
    intro hq
    have hk := h.lt _ (nat_mem hq)
    refine valAt_congr (h.at_ q hq) fun h3 => ?_
    have key : ∀ y, (y = (l.getD (I.getD q 0) .z).a ∨ y = (l.getD (I.getD q 0) .z).b) → runE (m.take q) y = runE (l.take (I.getD q 0)) y := fun y hy => by
      rw [runE_at y (by rw [h.len]; omega), runE_at y (by omega)]
      obtain ⟨h1, h2⟩ := h.last hq h3 hy
      cases hL : lastTo l (I.getD q 0) y with
      | none => rw [h2 hL]
      | some j =>
        obtain ⟨r, hr, hrj, hm⟩ := h1 j hL
        rw [hm]
        show valAt m r = valAt l j
        rw [ih r hr (by omega), hrj]
    exact ⟨key _ (.inl rfl), key _ (.inr rfl)⟩
/-- What is used is used there. -/
theorem Part_.use (h : Part_ l m I) {q p : Nat} (hq : q < I.length) (hp : p < I.length) (hu : ((I.getD p 0 : Nat) : Int) ∈ usesL l (I.getD q 0)) : (p : Int) ∈ usesL m q := by
  have key : ∀ y, (y = (l.getD (I.getD q 0) .z).a ∨ y = (l.getD (I.getD q 0) .z).b) → ((I.getD p 0 : Nat) : Int) ∈ useOf (lastTo l (I.getD q 0)) (l.getD (I.getD q 0) .z) y → (p : Int) ∈ useOf (lastTo m q) (m.getD q .z) y := fun y hy hm => by
    obtain ⟨ho, j, hj, hjp⟩ := useOf_mem hm
    obtain ⟨r, hr, hrj, hm'⟩ := (h.last hq ho hy).1 j hj
    have : r = p := by
      have e : I.getD r 0 = I.getD p 0 := by omega
      rcases Nat.lt_trichotomy r p with h1 | h1 | h1
      · have := h.mono h1 hp; omega
      · exact h1
      · have := h.mono h1 (by omega); omega
    subst this
    unfold useOf
    rw [h.at_ q hq, if_pos ho, hm']
    simp
  unfold usesL at hu ⊢
  rcases List.mem_append.1 hu with hu | hu
  · refine List.mem_append.2 (.inl ?_)
    have := key _ (.inl rfl) hu
    rwa [h.at_ q hq] at this ⊢
  · refine List.mem_append.2 (.inr ?_)
    have := key _ (.inr rfl) hu
    rwa [h.at_ q hq] at this ⊢
end

def placesOf (bs : List Bool) (n : Nat) : List Nat := (List.range n).filter fun j => bs.getD j false
theorem okU_uses (l : List Ln) (n : Nat) : OkU (usesL l) n := fun _ _ _ hy => usesL_lt hy
theorem part_alone {l : List Ln} {n : Nat} (hn : n < l.length) : Part_ l (aloneTo l (backS (usesL l) l.length n) l.length) (placesOf (backS (usesL l) l.length n) l.length) := by
  have hm : ∀ k, k ∈ placesOf (backS (usesL l) l.length n) l.length ↔ Reach (usesL l) n k := fun k => by
    unfold placesOf
    rw [List.mem_filter, List.mem_range]
    have hb : ((backS (usesL l) l.length n).getD k false = true) ↔ Reach (usesL l) n k := backS_iff (okU_uses l l.length) hn
    constructor
    · exact fun h => hb.1 h.2
    · exact fun h => ⟨by have := h.le (okU_uses l l.length) hn; omega, hb.2 h⟩
  refine ⟨by unfold aloneTo placesOf; simp, ?_, fun k hk => ?_, fun q hq => ?_, fun k hk y hy => ?_⟩
  · unfold placesOf
    exact List.Pairwise.filter _ List.pairwise_lt_range
  · have := ((hm k).1 hk).le (okU_uses l l.length) hn; omega
  · unfold aloneTo
    unfold placesOf at hq ⊢
    exact map_getD hq
  · rw [hm] at hk ⊢
    have := usesL_lt hy
    exact hk.step (by rw [Int.toNat_of_nonneg this.1]; exact hy)

/-- Sliced, it is worth the same; sliced again nothing is left out. -/
theorem alone_law {l : List Ln} {n : Nat} (h : rightM l n = 0) {m : List Ln} (hm : m = aloneTo l (backS (usesL l) l.length n) l.length) :
    1 ≤ m.length ∧ m.length ≤ n + 1 ∧ rightM m ((m.length : Int) - 1) = 0 ∧ runM m ((m.length : Int) - 1) = (valAt l n, 0) ∧ (aloneM m ((m.length : Int) - 1)).2 = 0 ∧ (aloneM m ((m.length : Int) - 1)).1.length = m.length := by
  obtain ⟨h200, hops, -, hnl⟩ := rightM_zero h
  have hn : n < l.length := by omega
  have hP := part_alone hn
  rw [← hm] at hP
  have hmem : ∀ k, k ∈ placesOf (backS (usesL l) l.length n) l.length ↔ Reach (usesL l) n k := fun k => by
    unfold placesOf
    rw [List.mem_filter, List.mem_range]
    have hb : ((backS (usesL l) l.length n).getD k false = true) ↔ Reach (usesL l) n k := backS_iff (okU_uses l l.length) hn
    constructor
    · exact fun h => hb.1 h.2
    · exact fun h => ⟨by have := h.le (okU_uses l l.length) hn; omega, hb.2 h⟩
  obtain ⟨I, hI⟩ : ∃ I, placesOf (backS (usesL l) l.length n) l.length = I := ⟨_, rfl⟩
  rw [hI] at hP hmem
  have hnI : n ∈ I := (hmem n).2 .refl
  have hpos : 1 ≤ I.length := List.length_pos_of_mem hnI
  have hle : ∀ k ∈ I, k ≤ n := fun k hk => ((hmem k).1 hk).le (okU_uses l l.length) hn
  have hlast : I.getD (I.length - 1) 0 = n := by
    obtain ⟨q, hq, hqn⟩ := nat_get hnI
    by_cases e : q = I.length - 1
    · rw [← e]; exact hqn
    · have h1 := hP.mono (show q < I.length - 1 by omega) (by omega)
      have h2 := hle _ (nat_mem (show I.length - 1 < I.length by omega))
      omega
  have hge : ∀ q, q < I.length → q ≤ I.getD q 0 := by
    intro q
    induction q with
    | zero => intro _; omega
    | succ q ih => intro hq; have := ih (by omega); have := hP.mono (show q < q + 1 by omega) hq; omega
  have hlen : I.length ≤ n + 1 := by have := hge (I.length - 1) (by omega); omega
  have hml := hP.len
  have hmops : ∀ x ∈ m, 0 ≤ x.o ∧ x.o ≤ 3 := by
    intro x hx
    obtain ⟨q, hq, rfl⟩ := List.getElem_of_mem hx
    have e := hP.at_ q (by omega)
    rw [List.getD_eq_getElem?_getD, List.getElem?_eq_getElem hq] at e
    simp only [Option.getD_some] at e
    rw [e]
    have hk := hP.lt _ (nat_mem (show q < I.length by omega))
    exact hops _ (ln_mem hk)
  have hr : rightM m (((m.length - 1 : Nat) : Int)) = 0 := by
    unfold rightM
    rw [if_neg (by omega), if_neg, if_neg (by omega)]
    rw [Bool.not_eq_true, List.any_eq_false]
    intro x hx
    have := hmops x hx
    unfold opBad
    simp
    omega
  have hc : ((m.length : Int) - 1) = ((m.length - 1 : Nat) : Int) := by omega
  rw [hc]
  refine ⟨by omega, by omega, hr, ?_, ?_, ?_⟩
  · rw [runM_eq hr, hml, hP.val _ (by omega), hlast]
  · unfold aloneM; rw [if_pos hr]
  · unfold aloneM
    rw [if_pos hr, Int.toNat_natCast]
    have hall : ∀ q, q < m.length → (backS (usesL m) m.length (m.length - 1)).getD q false = true := by
      intro q hq
      rw [backS_iff (okU_uses m m.length) (by omega)]
      have hreach := (hmem _).1 (nat_mem (show q < I.length by omega))
      have key : ∀ k, Reach (usesL l) n k → ∀ q, q < I.length → I.getD q 0 = k → Reach (usesL m) (m.length - 1) q := by
        intro k hk
        induction hk with
        | refl =>
          intro q hq hqn
          have : q = m.length - 1 := by
            rw [hml]
            rcases Nat.lt_trichotomy q (I.length - 1) with h1 | h1 | h1
            · have := hP.mono h1 (by omega); omega
            · exact h1
            · omega
          rw [this]; exact .refl
        | @step k' k'' h' hk ih =>
          intro q hq hqk
          obtain ⟨q', hq', hqk'⟩ := nat_get ((hmem _).2 h')
          refine (ih q' hq' hqk').step (hP.use hq' hq ?_)
          rw [hqk, hqk']; exact hk
      exact key _ hreach q (by omega) rfl
    unfold aloneTo
    rw [List.length_map, List.filter_eq_self.2 (fun q hq => hall q (List.mem_range.1 hq))]
    simp
end Go.Proofs.Ytjabhkpifpcccaa
