/-
  Rank's map: empty, or some key is left; and the search for the least that is free.
-/
import Derived.Test.YtfcimbhjoioinaaRankM
namespace Go.Proofs.Ytfcimbhjoioinaa
open Go.Maps (Keyed)
open Go.WideElems (rd_key rg_of rg)

theorem none_left {w : World} {b n : Nat} {D : DataW Unit} {N : Int → Option Int} (ho : w.ownsMap Try.prog 3 (plainElem Try.prog 3) b n D) (hr : Rep D N) :
    (Maps.size D = 0 ∧ ∀ x, (Lit.int .i64 x).wf = true → N x = none) ∨ (0 < Maps.size D ∧ ∃ x, (Lit.int .i64 x).wf = true ∧ (N x).isSome = true) := by
  obtain ⟨es, clock, hb, F, hs, rfl⟩ := ho
  rcases Nat.eq_zero_or_pos es.size with h0 | h0
  · left
    have he : es.toList = [] := by rw [← List.length_eq_zero_iff]; simpa using h0
    refine ⟨by simp [Maps.size_eq, he], fun x hx => ?_⟩
    have := hr.has x hx
    rw [he] at this
    simp [Maps.has_eq] at this
    exact this
  · right
    have hsz : Maps.size (DataW.map ((es.toList.map (rg Try.prog 3 (plainElem Try.prog 3))).foldr DataW.insert []) : DataW Unit) = es.size := by
      rw [Maps.size_eq, length_sorted]; simp
    refine ⟨by rw [hsz]; exact h0, ?_⟩
    have hm : es[0] ∈ es.toList := by simp
    obtain ⟨y, hy⟩ := F.reads _ hm
    obtain ⟨x, -, e2, hx⟩ := Maps.keyOf_int_inv Try.underlying3 (rd_key hy)
    refine ⟨x, hx, ?_⟩
    rw [← hr.has x hx, Maps.has_eq, List.any_eq_true]
    refine ⟨y, mem_sorted.2 (List.mem_map.2 ⟨_, hm, rg_of hy⟩), ?_⟩
    rw [e2]
    simp [Lit.sameKey]
theorem rest_zero {l : List Dp} {out : List Int} {x : Int} : restN l out x = some 0 ↔ Free l out x := by
  unfold restN Free
  by_cases h : x ∈ nodes l ∧ x ∉ out
  · rw [if_pos h]
    simp [h.1, h.2]
  · rw [if_neg h]
    simp only [reduceCtorEq, false_iff]
    exact fun e => h ⟨e.1, e.2.1⟩
theorem rest_some {l : List Dp} {out : List Int} {x : Int} : (restN l out x).isSome = true ↔ x ∈ nodes l ∧ x ∉ out := by
  unfold restN
  by_cases h : x ∈ nodes l ∧ x ∉ out
  · rw [if_pos h]; simp [h.1, h.2]
  · rw [if_neg h]; simp; exact fun h1 => Classical.byContradiction fun h2 => h ⟨h1, h2⟩
/-- The search: whichever key comes next. -/
structure Find (N : Int → Option Int) (left : Lit → Bool) (least : Int) (sm : Bool) : Prop where
  no : sm = false → ∀ x, (Lit.int .i64 x).wf = true → N x = .some 0 → left (.int .i64 x) = true
  is : sm = true → (Lit.int .i64 least).wf = true ∧ N least = .some 0 ∧ ∀ x, (Lit.int .i64 x).wf = true → N x = .some 0 → left (.int .i64 x) = true ∨ least ≤ x
theorem find_start {D : DataW Unit} {N : Int → Option Int} (hr : Rep D N) : Find N (Maps.has D) 0 false := by
  refine ⟨fun _ x hx h => ?_, fun h => ?_⟩
  · rw [hr.has x hx, h]; rfl
  · cases h
theorem same_int {x y : Int} : (Lit.int .i64 x).sameKey (.int .i64 y) = decide (x = y) := by
  by_cases h : x = y
  · subst h; simp [Lit.sameKey]
  · simp [Lit.sameKey, h]
/-- It is taken. -/
theorem find_take {N : Int → Option Int} {left : Lit → Bool} {least : Int} {sm : Bool} {x : Int} (h : Find N left least sm) (hx : (Lit.int .i64 x).wf = true) (hN : N x = .some 0) (hc : sm = false ∨ x < least) :
    Find N (fun z => left z && !z.sameKey (.int .i64 x)) x true := by
  refine ⟨fun e => (by cases e), fun _ => ⟨hx, hN, fun y hy hNy => ?_⟩⟩
  rw [same_int]
  by_cases e : y = x
  · right; omega
  · rcases Bool.eq_false_or_eq_true sm with h1 | h1
    · rcases (h.is h1).2.2 y hy hNy with h2 | h2
      · left; simp [h2, e]
      · right
        rcases hc with h3 | h3
        · rw [h1] at h3; cases h3
        · omega
    · left; simp [h.no h1 y hy hNy, e]
/-- It is not. -/
theorem find_pass {N : Int → Option Int} {left : Lit → Bool} {least : Int} {sm : Bool} {x : Int} (h : Find N left least sm) (hc : N x ≠ .some 0 ∨ (sm = true ∧ least ≤ x)) :
    Find N (fun z => left z && !z.sameKey (.int .i64 x)) least sm := by
  refine ⟨fun e y hy hNy => ?_, fun e => ⟨(h.is e).1, (h.is e).2.1, fun y hy hNy => ?_⟩⟩
  · rw [same_int]
    have : y ≠ x := fun e2 => by
      rcases hc with h3 | h3
      · exact h3 (e2 ▸ hNy)
      · rw [e] at h3; cases h3.1
    simp [h.no e y hy hNy, this]
  · rw [same_int]
    by_cases e2 : y = x
    · right
      rcases hc with h3 | h3
      · exact absurd (e2 ▸ hNy) h3
      · omega
    · rcases (h.is e).2.2 y hy hNy with h2 | h2
      · left; simp [h2, e2]
      · exact .inr h2
theorem find_end {l : List Dp} {out : List Int} (hwf : ∀ x ∈ nodes l, (Lit.int .i64 x).wf = true) {left : Lit → Bool} {least : Int} {sm : Bool} (h : Find (restN l out) left least sm) (h0 : ∀ kl, left kl = false) :
    leastF l out = if sm = true then .some least else none := by
  cases sm
  · rw [if_neg (by simp), leastF_none]
    intro x hx
    have := h.no rfl x (hwf x hx.1) (rest_zero.2 hx)
    rw [h0] at this
    cases this
  · rw [if_pos rfl, leastF_some]
    refine ⟨rest_zero.1 (h.is rfl).2.1, fun y hy => ?_⟩
    rcases (h.is rfl).2.2 y (hwf y hy.1) (rest_zero.2 hy) with h2 | h2
    · rw [h0] at h2; cases h2
    · exact h2
theorem rep_at {D : DataW Unit} {N : Int → Option Int} (hr : Rep D N) {x c : Int} (hx : (Lit.int .i64 x).wf = true) (h : ∀ zd, D.atKey (.int .i64 x) zd = .lit (.int .i64 c)) : N x = some c := by
  have h1 := hr.get x hx
  cases hN : N x with
  | none =>
    rw [hN] at h1
    have := (h1 .nil).symm.trans (h .nil)
    cases this
  | some v =>
    rw [hN] at h1
    have := (h1 .nil).symm.trans (h .nil)
    simpa using this
theorem rankGo_all {l : List Dp} {out : List Int} (h : ∀ x ∈ nodes l, x ∈ out) : ∀ f, rankGo l f out = (out, true)
  | 0 => rfl
  | f + 1 => by
    have : (nodes l).all (fun x => out.contains x) = true := by rw [List.all_eq_true]; intro x hx; simpa using h x hx
    rw [rankGo, if_pos this]
theorem rankGo_some {l : List Dp} {out : List Int} {x : Int} (hx : x ∈ nodes l) (ho : x ∉ out) (f : Nat) : rankGo l (f + 1) out = match leastF l out with | none => ([], false) | some x => rankGo l f (out ++ [x]) := by
  have : ¬ (nodes l).all (fun x => out.contains x) = true := by
    rw [List.all_eq_true]
    intro h
    have := h x hx
    simp [ho] at this
  rw [rankGo, if_neg this]
  cases leastF l out <;> rfl
theorem nodes_len (l : List Dp) : (nodes l).length = 2 * l.length := by
  unfold nodes
  induction l with
  | nil => rfl
  | cons p l ih => rw [List.flatMap_cons, List.length_append, ih]; simp; omega
theorem offN_get (l : List Dp) (out : List Int) (x : Int) (k : Nat) (y : Int) : -(l.length : Int) ≤ (offN l out x k y).getD 0 ∧ (offN l out x k y).getD 0 ≤ l.length := by
  unfold offN
  split
  · simp only [Option.getD_some]
    have : cntA l out y ≤ l.length := List.countP_le_length
    have : ((l.take k).countP fun p => p.i == x && p.j == y) ≤ (l.take k).length := List.countP_le_length
    have : (l.take k).length ≤ l.length := by rw [List.length_take]; omega
    omega
  · simp
end Go.Proofs.Ytfcimbhjoioinaa
