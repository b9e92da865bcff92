/-
  What LockupSafe makes: who takes rising locks alone, and gives all back, makes pairs that rise.
-/
import Derived.Test.YtfcimbhjoioinaaOrdL
import Derived.Test.YtfcimbhjoioinaaRankL
namespace Go.Proofs.Ytfcimbhjoioinaa

theorem ordS_app (l m : List Ev) (N : Int → List Int) : ordS (l ++ m) N = ordS m (ordS l N) := by
  induction l generalizing N with
  | nil => rfl
  | cons a l ih => exact ih _
theorem ordO_app (l m : List Ev) (N : Int → List Int) : ordO (l ++ m) N = ordO l N ++ ordO m (ordS l N) := by
  induction l generalizing N with
  | nil => rfl
  | cons a l ih =>
    show ordP a N ++ ordO (l ++ m) (ordN a N) = ordP a N ++ ordO l (ordN a N) ++ ordO m (ordS l (ordN a N))
    rw [ih, List.append_assoc]
abbrev lkE (t n : Int) : Ev := ⟨13, 0, t, 0, 0, 0, n, 0, 0, 0, 0, 0⟩
abbrev frE (t n : Int) : Ev := ⟨14, 0, t, 0, 0, 0, n, 0, 0, 0, 0, 0⟩
/-- A row of locks that rises. -/
structure Rises (o : List Int) : Prop where
  up : o.Pairwise (· < ·)
  lo : ∀ x ∈ o, 0 ≤ x ∧ x ≤ 15
theorem rises_nil : Rises [] := ⟨.nil, fun x h => by cases h⟩
theorem rises_snoc {o : List Int} {n : Int} (h : Rises o) (hn : 0 ≤ n ∧ n ≤ 15) (hl : ∀ x ∈ o, x < n) : Rises (o ++ [n]) := by
  refine ⟨List.pairwise_append.2 ⟨h.up, List.pairwise_singleton _ _, fun a ha b hb => ?_⟩, fun x hx => ?_⟩
  · obtain rfl := List.mem_singleton.1 hb; exact hl a ha
  · rcases List.mem_append.1 hx with hx | hx
    · exact h.lo x hx
    · obtain rfl := List.mem_singleton.1 hx; exact hn
theorem rises_last {o : List Int} {n : Int} (h : Rises o) (h0 : 0 < o.length) (hl : o.getD (o.length - 1) 0 < n) : ∀ x ∈ o, x < n := by
  intro x hx
  obtain ⟨i, hi, rfl⟩ := List.getElem_of_mem hx
  rw [List.getD_eq_getElem?_getD, List.getElem?_eq_getElem (by omega)] at hl
  simp only [Option.getD_some] at hl
  by_cases e : i = o.length - 1
  · subst e; exact hl
  · have := List.pairwise_iff_getElem.1 h.up i (o.length - 1) hi (by omega) (by omega)
    omega
/-- A pair that rises. -/
def Up (p : Dp) : Prop := p.i < p.j ∧ 0 ≤ p.i ∧ p.j ≤ 15
structure Good (l : List Ev) : Prop where
  free : ∀ x, ordS l (fun _ => []) x = []
  up : ∀ p ∈ ordO l (fun _ => []), Up p
theorem good_nil : Good [] := ⟨fun _ => rfl, fun p h => by cases h⟩
theorem locks_all (t : Int) : ∀ (o : List Int) (N : Int → List Int), (∀ x, N x = []) → Rises o → (∀ x, ordS (o.map (lkE t)) N x = if x = t then o else []) ∧ ∀ p ∈ ordO (o.map (lkE t)) N, Up p := by
  suffices key : ∀ (r : List Int) (N : Int → List Int), (∀ x, N x = []) → Rises r.reverse → (∀ x, ordS (r.reverse.map (lkE t)) N x = if x = t then r.reverse else []) ∧ ∀ p ∈ ordO (r.reverse.map (lkE t)) N, Up p by
    intro o; have := key o.reverse; rwa [List.reverse_reverse] at this
  intro r
  induction r with
  | nil => exact fun N hN _ => ⟨fun x => by show N x = _; rw [hN]; split <;> rfl, fun p h => by cases h⟩
  | cons a r ih =>
    rw [List.reverse_cons]
    generalize r.reverse = o at ih
    intro N hN hr
    have hr' : Rises o := ⟨(List.pairwise_append.1 hr.up).1, fun x hx => hr.lo x (by simp [hx])⟩
    have hlt : ∀ x ∈ o, x < a := fun x hx => (List.pairwise_append.1 hr.up).2.2 x hx a (by simp)
    have ha := hr.lo a (by simp)
    obtain ⟨h1, h2⟩ := ih N hN hr'
    have ht : ordS (o.map (lkE t)) N t = o := by rw [h1, if_pos rfl]
    have hno : a ∉ o := fun h => by have := hlt a h; omega
    rw [List.map_append, List.map_singleton]
    refine ⟨fun x => ?_, fun p hp => ?_⟩
    · rw [ordS_snoc]
      unfold ordN
      rw [if_pos rfl, if_neg (by rw [ht]; exact hno)]
      unfold updN
      by_cases e : x = t
      · rw [if_pos e, if_pos e]; show ordS (o.map (lkE t)) N t ++ [a] = _; rw [ht]
      · rw [if_neg e, if_neg e, h1, if_neg e]
    · rw [ordO_snoc] at hp
      rcases List.mem_append.1 hp with hp | hp
      · exact h2 p hp
      · unfold ordP at hp
        rw [if_pos rfl] at hp
        replace hp : p ∈ prs (ordS (o.map (lkE t)) N t) a := hp
        rw [ht] at hp
        unfold prs at hp
        obtain ⟨n, hn, rfl⟩ := List.mem_map.1 hp
        have hn' := (List.mem_filter.1 hn).1
        exact ⟨hlt n hn', (hr'.lo n hn').1, ha.2⟩
theorem frees_all (t : Int) : ∀ (o : List Int) (N : Int → List Int), (∀ x, N x = if x = t then o else []) → (∀ x, ordS (o.map (frE t)) N x = []) ∧ ordO (o.map (frE t)) N = []
  | [], N, hN => ⟨fun x => by show N x = _; rw [hN]; split <;> rfl, rfl⟩
  | a :: o, N, hN => by
    have ht : N t = a :: o := by rw [hN, if_pos rfl]
    have hstep : ∀ x, ordN (frE t a) N x = if x = t then o else [] := fun x => by
      unfold ordN
      rw [if_neg (by show ¬ (14 : Int) = 13; decide), if_pos ⟨rfl, by show a ∈ N t; rw [ht]; exact List.mem_cons_self⟩]
      unfold updN
      by_cases e : x = t
      · rw [if_pos e, if_pos e]
        show (N t).eraseIdx ((N t).findIdx (· == a)) = o
        rw [ht, List.findIdx_cons]
        simp
      · rw [if_neg e, if_neg e, hN, if_neg e]
    obtain ⟨h1, h2⟩ := frees_all t o (ordN (frE t a) N) hstep
    refine ⟨h1, ?_⟩
    show ordP (frE t a) N ++ ordO (o.map (frE t)) (ordN (frE t a) N) = []
    rw [h2]
    unfold ordP
    rw [if_neg (by show ¬ (14 : Int) = 13; decide)]
    rfl
theorem good_group {l : List Ev} (h : Good l) (t : Int) {o : List Int} (hr : Rises o) : Good (l ++ o.map (lkE t) ++ o.map (frE t)) := by
  obtain ⟨h1, h2⟩ := locks_all t o (ordS l fun _ => []) h.free hr
  obtain ⟨h3, h4⟩ := frees_all t o _ h1
  refine ⟨fun x => ?_, fun p hp => ?_⟩
  · rw [ordS_app, ordS_app]; exact h3 x
  · rw [ordO_app, ordO_app, ordS_app, h4, List.append_nil] at hp
    rcases List.mem_append.1 hp with hp | hp
    · exact h.up p hp
    · exact h2 p hp
theorem mem_compact {l : List Dp} {p : Dp} (h : p ∈ Go.Lib.compact l) : p ∈ l := by
  unfold Go.Lib.compact Go.Lib.compactUpTo at h
  obtain ⟨m, hm, rfl⟩ := List.mem_map.1 h
  have hl := List.mem_range.1 (List.mem_filter.1 hm).1
  rw [getElem!_pos l.toArray m (by simpa using hl)]
  simp
theorem order_up {l : List Ev} (h : Good l) : ∀ p ∈ orderL l, Up p := by
  intro p hp
  unfold orderL at hp
  refine h.up p ?_
  have h1 : p ∈ sortP (ordO l fun _ => []) := by
    unfold compP at hp
    exact mem_compact hp
  exact (sortP_perm _).mem_iff.1 h1
theorem rank_few {l : List Dp} (h : ∀ p ∈ l, Up p) : (rankL l).1.length ≤ 16 := by
  have hsub : ∀ x ∈ (rankL l).1, x ∈ (List.range 16).map (fun n : Nat => (n : Int)) := by
    rcases rank_spec l with ⟨-, h2, -⟩ | ⟨h1, -⟩
    · intro x hx
      have hn := h2.sub x hx
      unfold nodes at hn
      obtain ⟨p, hp, hx2⟩ := List.mem_flatMap.1 hn
      have hu := h p hp
      unfold Up at hu
      simp only [List.mem_cons, List.not_mem_nil, or_false] at hx2
      refine List.mem_map.2 ⟨x.toNat, List.mem_range.2 ?_, ?_⟩ <;> rcases hx2 with rfl | rfl <;> omega
    · rw [h1]; intro x hx; cases hx
  have hnd : (rankL l).1.Nodup := by
    rcases rank_spec l with ⟨-, h2, -⟩ | ⟨h1, -⟩
    · exact h2.nd
    · rw [h1]; exact List.nodup_nil
  have := nodup_len hnd hsub
  simpa using this
/-! ### How many -/
theorem locks_len (t : Int) : ∀ (o : List Int) (N : Int → List Int), (∀ x, N x = []) → Rises o → (ordO (o.map (lkE t)) N).length ≤ o.length * o.length := by
  suffices key : ∀ (r : List Int) (N : Int → List Int), (∀ x, N x = []) → Rises r.reverse → (ordO (r.reverse.map (lkE t)) N).length ≤ r.reverse.length * r.reverse.length by
    intro o; have := key o.reverse; rwa [List.reverse_reverse] at this
  intro r
  induction r with
  | nil => intro N _ _; exact Nat.zero_le _
  | cons a r ih =>
    rw [List.reverse_cons]
    generalize r.reverse = o at ih
    intro N hN hr
    have hr' : Rises o := ⟨(List.pairwise_append.1 hr.up).1, fun x hx => hr.lo x (by simp [hx])⟩
    have h1 := ih N hN hr'
    have ht : ordS (o.map (lkE t)) N t = o := by rw [(locks_all t o N hN hr').1, if_pos rfl]
    rw [List.map_append, List.map_singleton, ordO_snoc, List.length_append, List.length_append, List.length_singleton]
    have h2 : (ordP (lkE t a) (ordS (o.map (lkE t)) N)).length ≤ o.length := by
      unfold ordP
      rw [if_pos rfl]
      show (prs (ordS (o.map (lkE t)) N t) a).length ≤ _
      rw [ht]; exact prs_len o a
    rw [Nat.add_mul, Nat.mul_add]
    omega
theorem group_len {l : List Ev} (h : Good l) (t : Int) {o : List Int} (hr : Rises o) (ho : o.length ≤ 3) : (ordO (l ++ o.map (lkE t) ++ o.map (frE t)) fun _ => []).length ≤ (ordO l fun _ => []).length + 9 := by
  obtain ⟨h1, -⟩ := locks_all t o (ordS l fun _ => []) h.free hr
  obtain ⟨-, h4⟩ := frees_all t o _ h1
  have h5 := locks_len t o (ordS l fun _ => []) h.free hr
  rw [ordO_app, ordO_app, ordS_app, h4, List.append_nil, List.length_append]
  have : o.length * o.length ≤ 3 * 3 := Nat.mul_le_mul ho ho
  omega
theorem order_len (l : List Ev) : (orderL l).length ≤ (ordO l fun _ => []).length := by
  unfold orderL compP Go.Lib.compact Go.Lib.compactUpTo
  rw [List.length_map]
  refine Nat.le_trans (List.length_filter_le _ _) ?_
  rw [List.length_range, (sortP_perm _).length_eq]
  exact Nat.le_refl _
end Go.Proofs.Ytfcimbhjoioinaa
