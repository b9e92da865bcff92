/-
  Clocks: the edges in their order, each once.
-/
import Derived.Test.YtgadbofnccakgaaSortP
import Derived.Test.YtgadbofnccakgaaCp
import Derived.Lib.SlicesCompact
namespace Go.Proofs.Ytgadbofnccakgaa
open Go.Sort Go.Lib

section
variable {α : Type} [Inhabited α] [DecidableEq α]
theorem cu_mem (d : Array α) : ∀ (m : Nat) (x : α), x ∈ compactUpTo d m ↔ ∃ j, j < m ∧ d[j]! = x
  | 0, x => by simp [compactUpTo]
  | m + 1, x => by
    rw [compactUpTo_succ, List.mem_append, cu_mem d m x]
    constructor
    · rintro (⟨j, h1, h2⟩ | h)
      · exact ⟨j, by omega, h2⟩
      · split at h
        · exact ⟨m, by omega, (by simpa using h : x = d[m]!).symm⟩
        · cases h
    · rintro ⟨j, h1, h2⟩
      by_cases hj : j = m
      · subst hj
        cases hk : keeps d j with
        | true => right; rw [if_pos rfl, List.mem_singleton]; exact h2.symm
        | false =>
          have : ¬ (j = 0 ∨ d[j]! ≠ d[j - 1]!) := by simpa [keeps] using hk
          left
          have h0 : j ≠ 0 := fun e => this (.inl e)
          have h3 : d[j]! = d[j - 1]! := Classical.byContradiction fun h => this (.inr h)
          exact ⟨j - 1, by omega, by rw [← h3]; exact h2⟩
      · exact .inl ⟨j, by omega, h2⟩
theorem compact_mem (l : List α) (x : α) : x ∈ compact l ↔ x ∈ l := by
  unfold compact
  rw [cu_mem]
  constructor
  · rintro ⟨j, h1, h2⟩
    rw [getElem!_pos _ j (by simpa using h1)] at h2
    rw [← h2]; simp
  · intro h
    obtain ⟨j, hj, e⟩ := List.mem_iff_getElem.1 h
    exact ⟨j, hj, by rw [getElem!_pos _ j (by simpa using hj)]; simpa using e⟩
theorem compact_sub (l : List α) : (compact l).Sublist l := by
  unfold compact compactUpTo
  have h : (List.range l.length).map (l.toArray[·]!) = l := by
    have := range_map_get l.toArray
    simpa using this
  have h2 : (((List.range l.length).filter (keeps l.toArray)).map (l.toArray[·]!)).Sublist ((List.range l.length).map (l.toArray[·]!)) := List.filter_sublist.map _
  rw [h] at h2
  exact h2
end
def toDp (p : Nat × Nat) : Dp := ⟨p.1, p.2⟩
def edD (l : List Ev) : List Dp := compact (sortP ((wst l l.length).out.map toDp))
def edM (l : List Ev) : List (Nat × Nat) := (edD l).map fun d => (d.i.toNat, d.j.toNat)
theorem edD_mem {l : List Ev} {d : Dp} : d ∈ edD l ↔ ∃ p ∈ (wst l l.length).out, toDp p = d := by
  unfold edD
  rw [compact_mem, (sortP_perm _).mem_iff, List.mem_map]
theorem edD_eq (l : List Ev) : edD l = (edM l).map toDp := by
  unfold edM
  rw [List.map_map]
  refine (List.map_id _).symm.trans (List.map_congr_left fun d hd => ?_)
  obtain ⟨p, -, rfl⟩ := edD_mem.1 hd
  rfl
theorem edM_mem {l : List Ev} {p : Nat × Nat} : p ∈ edM l ↔ p ∈ (wst l l.length).out := by
  unfold edM
  rw [List.mem_map]
  constructor
  · rintro ⟨d, hd, rfl⟩
    obtain ⟨q, hq, rfl⟩ := edD_mem.1 hd
    exact hq
  · intro h
    exact ⟨toDp p, edD_mem.2 ⟨p, h, rfl⟩, rfl⟩
theorem edM_sorted (l : List Ev) : (edM l).Pairwise fun p q => p.2 ≤ q.2 := by
  unfold edM
  rw [List.pairwise_map]
  refine List.Pairwise.sublist (compact_sub _) ?_
  have := List.pairwise_mergeSort (le := fun x y => !(ltOf cfP) y x) (fun a b c h1 h2 => by
    rw [ltOf_cfP] at *
    simp at *
    omega) (fun a b => by
    rw [ltOf_cfP]
    simp
    omega) ((wst l l.length).out.map toDp)
  refine List.Pairwise.imp (fun {a b} h => ?_) this
  rw [ltOf_cfP] at h
  simp at h
  omega
/-- Threads as numbers. -/
def tsOf (l : List Ev) : List Nat := l.map fun e => e.t.toNat
theorem tsOf_len (l : List Ev) : (tsOf l).length = l.length := by simp [tsOf]
theorem edM_good {l : List Ev} (h0 : ∀ e ∈ l, 0 ≤ e.t) : Good (tsOf l) (edM l) := by
  refine ⟨fun p hp => ?_, fun i j hij hj ht => ?_⟩
  · have := (wst_b l l.length (Nat.le_refl _)).out p (edM_mem.1 hp)
    rw [tsOf_len]; exact this
  · rw [tsOf_len] at hj
    have hi : i < l.length := by omega
    unfold tsOf at ht ⊢
    rw [List.getElem?_map, List.getElem?_map, List.getElem?_eq_getElem hi, List.getElem?_eq_getElem hj] at ht
    simp only [Option.map_some, Option.some.injEq] at ht
    have t1 := h0 l[i] (List.getElem_mem hi)
    have t2 := h0 l[j] (List.getElem_mem hj)
    have ht' : l[i].t = l[j].t := by omega
    obtain ⟨w1, w2⟩ := wst_last l j (by omega)
    obtain ⟨p, p1, p2⟩ := w1 i hi hij
    rw [ht'] at p1
    obtain ⟨p3, p4⟩ := w2 _ _ p1
    refine ⟨p, p2, ?_, edM_mem.2 ?_⟩
    · rw [List.getElem?_map, List.getElem?_map, List.getElem?_eq_getElem p3, List.getElem?_eq_getElem hj, Option.map_some, Option.map_some, p4]
    · obtain ⟨m, e1, -⟩ := out_pre (l := l) (n := l.length) (k := j + 1) (by omega) (Nat.le_refl _)
      rw [e1, out_step hj]
      refine List.mem_append_left _ (List.mem_append_right _ (List.mem_append_left _ (List.mem_append_left _ ?_)))
      rw [p1]; simp [one?]
/-- More events behind: nothing ahead turns. -/
theorem edM_take {l : List Ev} {n : Nat} (hn : n ≤ l.length) {p : Nat × Nat} : p ∈ edM (l.take n) ↔ p ∈ edM l ∧ p.2 < n := by
  rw [edM_mem, edM_mem]
  have hl : (l.take n).length = n := by rw [List.length_take]; omega
  rw [hl, wst_take l n n (Nat.le_refl _)]
  obtain ⟨m, e1, e2⟩ := out_pre (l := l) (n := l.length) (k := n) hn (Nat.le_refl _)
  rw [e1]
  constructor
  · intro h
    exact ⟨List.mem_append_left _ h, ((wst_b l n hn).out p h).2⟩
  · rintro ⟨h, hp⟩
    rcases List.mem_append.1 h with h | h
    · exact h
    · have := e2 p h; omega
theorem pth_take {l : List Ev} {n : Nat} (hn : n ≤ l.length) {i j : Nat} (hj : j < n) : Pth (edM (l.take n)) i j ↔ Pth (edM l) i j := by
  constructor
  · intro h
    induction h with
    | refl => exact .refl _
    | @step j k _ e ih =>
      have h1 := (edM_take hn).1 e
      have := ((wst_b l l.length (Nat.le_refl _)).out _ (edM_mem.1 h1.1)).1
      exact (ih (by omega)).step h1.1
  · intro h
    induction h with
    | refl => exact .refl _
    | @step j k _ e ih =>
      have := ((wst_b l l.length (Nat.le_refl _)).out _ (edM_mem.1 e)).1
      exact (ih (by omega)).step ((edM_take hn).2 ⟨e, hj⟩)
end Go.Proofs.Ytgadbofnccakgaa
