/-
  The law of Rank: an order of all that stand in pairs.
-/
import Derived.Test.YtfcimbhjoioinaaDp
namespace Go.Proofs.Ytfcimbhjoioinaa

def nodes (l : List Dp) : List Int := l.flatMap fun p => [p.i, p.j]
theorem nodes_i {l : List Dp} {p : Dp} (h : p ∈ l) : p.i ∈ nodes l := List.mem_flatMap.2 ⟨p, h, by simp⟩
theorem nodes_j {l : List Dp} {p : Dp} (h : p ∈ l) : p.j ∈ nodes l := List.mem_flatMap.2 ⟨p, h, by simp⟩
/-- How many of x's pairs still wait. -/
def cntA (l : List Dp) (out : List Int) (x : Int) : Nat := l.countP fun p => p.j == x && !out.contains p.i
theorem cntA_zero {l : List Dp} {out : List Int} {x : Int} : cntA l out x = 0 ↔ ∀ p ∈ l, p.j = x → p.i ∈ out := by
  unfold cntA
  rw [List.countP_eq_zero]
  constructor
  · intro h p hp e
    have := h p hp
    simpa [e] using this
  · intro h p hp e
    simp only [Bool.and_eq_true, beq_iff_eq, Bool.not_eq_true'] at e
    have := h p hp e.1
    simp [this] at e
/-- Those that may come next. -/
def Free (l : List Dp) (out : List Int) (x : Int) : Prop := x ∈ nodes l ∧ x ∉ out ∧ cntA l out x = 0
instance (l : List Dp) (out : List Int) (x : Int) : Decidable (Free l out x) := by unfold Free; exact inferInstance
/-- The least of them. -/
def IsLeast (l : List Dp) (out : List Int) (x : Int) : Prop := Free l out x ∧ ∀ y, Free l out y → x ≤ y
def leastF (l : List Dp) (out : List Int) : Option Int := ((nodes l).filter fun x => decide (Free l out x)).min?
theorem leastF_some {l : List Dp} {out : List Int} {x : Int} : leastF l out = some x ↔ IsLeast l out x := by
  unfold leastF
  rw [List.min?_eq_some_iff]
  simp only [List.mem_filter, decide_eq_true_eq]
  constructor
  · rintro ⟨⟨-, h1⟩, h2⟩
    exact ⟨h1, fun y hy => h2 y ⟨hy.1, hy⟩⟩
  · rintro ⟨h1, h2⟩
    exact ⟨⟨h1.1, h1⟩, fun y hy => h2 y hy.2⟩
theorem leastF_none {l : List Dp} {out : List Int} : leastF l out = none ↔ ∀ x, ¬ Free l out x := by
  unfold leastF
  rw [List.min?_eq_none_iff, List.filter_eq_nil_iff]
  simp only [decide_eq_true_eq]
  exact ⟨fun h x hx => h x hx.1 hx, fun h x _ => h x⟩
/-- Kahn's way. -/
def rankGo (l : List Dp) : Nat → List Int → List Int × Bool
  | 0, out => (out, true)
  | f + 1, out => if (nodes l).all (fun x => out.contains x) then (out, true) else match leastF l out with
    | none => ([], false)
    | some x => rankGo l f (out ++ [x])
/-- What always holds of those that have come. -/
structure Rk (l : List Dp) (out : List Int) : Prop where
  nd : out.Nodup
  sub : ∀ x ∈ out, x ∈ nodes l
  ahead : ∀ (k : Nat) (x : Int), out[k]? = some x → ∀ p ∈ l, p.j = x → ∃ m : Nat, m < k ∧ out[m]? = some p.i
theorem rk_nil (l : List Dp) : Rk l [] := ⟨List.nodup_nil, fun x h => by simp at h, fun k x h => by simp at h⟩
theorem rk_step {l : List Dp} {out : List Int} {x : Int} (h : Rk l out) (hx : Free l out x) : Rk l (out ++ [x]) := by
  refine ⟨?_, fun y hy => ?_, fun k y hk p hp e => ?_⟩
  · rw [List.nodup_append]
    refine ⟨h.nd, by simp, fun a ha b hb => ?_⟩
    obtain rfl := List.mem_singleton.1 hb
    rintro rfl
    exact hx.2.1 ha
  · rcases List.mem_append.1 hy with h1 | h1
    · exact h.sub y h1
    · obtain rfl := List.mem_singleton.1 h1; exact hx.1
  · by_cases hlt : k < out.length
    · rw [List.getElem?_append_left hlt] at hk
      obtain ⟨m, hm, e2⟩ := h.ahead k y hk p hp e
      exact ⟨m, hm, by rw [List.getElem?_append_left (by omega)]; exact e2⟩
    · rw [List.getElem?_append_right (by omega)] at hk
      have hk0 : k - out.length = 0 := by
        rcases Nat.eq_zero_or_pos (k - out.length) with h0 | h0
        · exact h0
        · rw [List.getElem?_eq_none (by simp; omega)] at hk; cases hk
      rw [hk0] at hk
      have : x = y := by simpa using hk
      subst this
      have hi := cntA_zero.1 hx.2.2 p hp e
      obtain ⟨m, hm, e2⟩ := List.getElem_of_mem hi
      exact ⟨m, by omega, by rw [List.getElem?_append_left hm, List.getElem?_eq_getElem hm, e2]⟩
/-- A set each of which waits for another one of it. -/
def Stuck (l : List Dp) (R : Int → Prop) : Prop := (∃ x, R x ∧ x ∈ nodes l) ∧ ∀ x, R x → ∃ p ∈ l, p.j = x ∧ R p.i
theorem stuck_out {l : List Dp} {R : Int → Prop} (hs : Stuck l R) {out : List Int} (ho : Rk l out) : ∀ (k : Nat) (x : Int), out[k]? = some x → ¬ R x := fun k => by
  induction k using Nat.strongRecOn with
  | ind k ih =>
    intro x hk hx
    obtain ⟨p, hp, e, hr⟩ := hs.2 x hx
    obtain ⟨m, hm, e2⟩ := ho.ahead k x hk p hp e
    exact ih m hm p.i e2 hr
theorem nodup_len : ∀ {a b : List Int}, a.Nodup → (∀ x ∈ a, x ∈ b) → a.length ≤ b.length
  | [], _, _, _ => Nat.zero_le _
  | x :: a, b, hn, hs => by
    have hn' := List.nodup_cons.1 hn
    have hx := hs x List.mem_cons_self
    have := nodup_len (b := b.erase x) hn'.2 fun y hy => (List.mem_erase_of_ne (fun e => hn'.1 (by rw [← e]; exact hy))).2 (hs y (List.mem_cons_of_mem _ hy))
    rw [List.length_erase_of_mem hx] at this
    have := List.length_pos_of_mem hx
    rw [List.length_cons]
    omega
theorem rankGo_spec (l : List Dp) : ∀ (f : Nat) (out : List Int), Rk l out → (nodes l).length < f + out.length →
    ((rankGo l f out).2 = true ∧ Rk l (rankGo l f out).1 ∧ (∀ x ∈ nodes l, x ∈ (rankGo l f out).1)) ∨ ((rankGo l f out) = ([], false) ∧ ∃ R, Stuck l R)
  | 0, out, ho, hf => by
    exfalso
    have := nodup_len ho.nd ho.sub
    omega
  | f + 1, out, ho, hf => by
    rw [rankGo]
    split
    · next h =>
      left
      refine ⟨rfl, ho, fun x hx => ?_⟩
      have := List.all_eq_true.1 h x hx
      simpa using this
    · next h =>
      cases hl : leastF l out with
      | none =>
        right
        refine ⟨rfl, fun x => x ∈ nodes l ∧ x ∉ out, ?_, fun x hx => ?_⟩
        · rw [List.all_eq_true] at h
          simp only [Classical.not_forall, List.contains_eq_mem, decide_eq_true_eq] at h
          obtain ⟨x, hx, hn⟩ := h
          exact ⟨x, ⟨hx, hn⟩, hx⟩
        · have := leastF_none.1 hl x
          have hc : cntA l out x ≠ 0 := fun e => this ⟨hx.1, hx.2, e⟩
          rw [Ne, cntA_zero] at hc
          simp only [Classical.not_forall] at hc
          obtain ⟨p, hp, e, hi⟩ := hc
          exact ⟨p, hp, e, nodes_i hp, hi⟩
      | some x =>
        have hx := leastF_some.1 hl
        exact rankGo_spec l f (out ++ [x]) (rk_step ho hx.1) (by rw [List.length_append, List.length_singleton]; omega)
def rankL (l : List Dp) : List Int × Bool := rankGo l ((nodes l).length + 1) []
/-- An order of all, or some that wait for one another. -/
theorem rank_spec (l : List Dp) : ((rankL l).2 = true ∧ Rk l (rankL l).1 ∧ ∀ x ∈ nodes l, x ∈ (rankL l).1) ∨ (rankL l = ([], false) ∧ ∃ R, Stuck l R) := rankGo_spec l _ [] (rk_nil l) (by simp)
theorem rank_no {l : List Dp} {R : Int → Prop} (h : Stuck l R) : rankL l = ([], false) := by
  rcases rank_spec l with ⟨-, h2, h3⟩ | ⟨h1, -⟩
  · obtain ⟨x, hx, hn⟩ := h.1
    obtain ⟨k, hk, e⟩ := List.getElem_of_mem (h3 x hn)
    exact absurd hx (stuck_out h h2 k x (by rw [List.getElem?_eq_getElem hk, e]))
  · exact h1
/-- With a pair turned round there is none. -/
theorem rank_turned {l : List Dp} {p : Dp} (hp : p ∈ l) : rankL (l ++ [⟨p.j, p.i⟩]) = ([], false) := by
  refine rank_no (R := fun x => x = p.i ∨ x = p.j) ⟨⟨p.i, .inl rfl, nodes_i (List.mem_append_left _ hp)⟩, fun x hx => ?_⟩
  rcases hx with rfl | rfl
  · exact ⟨⟨p.j, p.i⟩, by simp, rfl, .inr rfl⟩
  · exact ⟨p, List.mem_append_left _ hp, rfl, .inl rfl⟩
/-- Pairs that rise leave none stuck. -/
theorem rank_rise {l : List Dp} (h : ∀ p ∈ l, p.i < p.j) : (rankL l).2 = true := by
  rcases rank_spec l with ⟨h1, -⟩ | ⟨-, R, ⟨⟨x, hx, hn⟩, hR⟩⟩
  · exact h1
  · exfalso
    -- there is a least one of R among the nodes
    have key : ∀ (n : Nat) (y : Int), R y → y ∈ nodes l → ((nodes l).filter (fun z => decide (z < y))).length ≤ n → False := fun n => by
      induction n with
      | zero =>
        intro y hy hm hl
        obtain ⟨p, hp, e, hr⟩ := hR y hy
        have hlt := h p hp
        have : p.i ∈ (nodes l).filter (fun z => decide (z < y)) := List.mem_filter.2 ⟨nodes_i hp, by simp; omega⟩
        have := List.length_pos_of_mem this
        omega
      | succ n ih =>
        intro y hy hm hl
        obtain ⟨p, hp, e, hr⟩ := hR y hy
        have hlt := h p hp
        refine ih p.i hr (nodes_i hp) ?_
        have hsub : ((nodes l).filter (fun z => decide (z < p.i))).length < ((nodes l).filter (fun z => decide (z < y))).length := by
          have e2 : (nodes l).filter (fun z => decide (z < p.i)) = ((nodes l).filter (fun z => decide (z < y))).filter (fun z => decide (z < p.i)) := by
            rw [List.filter_filter]
            refine List.filter_congr fun z _ => ?_
            by_cases c : z < p.i
            · simp [c]; omega
            · simp [c]
          rw [e2]
          have hm2 : p.i ∈ (nodes l).filter (fun z => decide (z < y)) := List.mem_filter.2 ⟨nodes_i hp, by simp; omega⟩
          exact List.length_filter_lt_length_iff_exists.2 ⟨p.i, hm2, by simp⟩
        omega
    exact key _ x hx hn (Nat.le_refl _)
end Go.Proofs.Ytfcimbhjoioinaa
