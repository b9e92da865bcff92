/-
  What Rank's map holds.
-/
import Derived.Test.YtfcimbhjoioinaaMd
namespace Go.Proofs.Ytfcimbhjoioinaa

def restN (l : List Dp) (out : List Int) (x : Int) : Option Int := if x ∈ nodes l ∧ x ∉ out then some ((cntA l out x : Nat) : Int) else none
theorem nodes_snoc (l : List Dp) (p : Dp) (y : Int) : y ∈ nodes (l ++ [p]) ↔ y ∈ nodes l ∨ y = p.i ∨ y = p.j := by
  unfold nodes
  rw [List.flatMap_append, List.mem_append]
  simp
theorem cnt_snoc (l : List Dp) (p : Dp) (y : Int) : cntA (l ++ [p]) [] y = cntA l [] y + if p.j = y then 1 else 0 := by
  unfold cntA
  rw [List.countP_append]
  congr 1
  by_cases h : p.j = y
  · simp [h]
  · simp [h]
theorem cnt_new {l : List Dp} {y : Int} (h : y ∉ nodes l) : cntA l [] y = 0 := by
  unfold cntA
  rw [List.countP_eq_zero]
  intro p hp e
  simp only [Bool.and_eq_true, beq_iff_eq] at e
  exact h (e.1 ▸ nodes_j hp)
/-- One pair more is counted. -/
theorem rest_snoc (l : List Dp) (p : Dp) : putN (putN (restN l []) p.i ((restN l [] p.i).getD 0 + 0)) p.j ((putN (restN l []) p.i ((restN l [] p.i).getD 0 + 0) p.j).getD 0 + 1) = restN (l ++ [p]) [] := by
  have val : ∀ y, (restN l [] y).getD 0 = ((cntA l [] y : Nat) : Int) := fun y => by
    unfold restN
    by_cases h : y ∈ nodes l
    · rw [if_pos ⟨h, by simp⟩]; rfl
    · rw [if_neg (fun e => h e.1), cnt_new h]; rfl
  have in1 : (putN (restN l []) p.i ((restN l [] p.i).getD 0 + 0) p.j).getD 0 = ((cntA l [] p.j : Nat) : Int) := by
    unfold putN
    by_cases e : p.j = p.i
    · rw [if_pos e, val, e]; simp
    · rw [if_neg e, val]
  rw [in1, val]
  funext y
  unfold putN
  by_cases h1 : y = p.j
  · subst h1
    rw [if_pos rfl, restN, if_pos ⟨(nodes_snoc l p _).2 (.inr (.inr rfl)), by simp⟩, cnt_snoc, if_pos rfl]
    rfl
  · rw [if_neg h1]
    by_cases h2 : y = p.i
    · subst h2
      rw [if_pos rfl, restN, if_pos ⟨(nodes_snoc l p _).2 (.inr (.inl rfl)), by simp⟩, cnt_snoc, if_neg (fun e => h1 e.symm)]
      simp
    · rw [if_neg h2]
      have hc : cntA (l ++ [p]) [] y = cntA l [] y := by rw [cnt_snoc, if_neg (fun e => h1 e.symm)]; rfl
      unfold restN
      rw [hc]
      have : (y ∈ nodes (l ++ [p]) ∧ y ∉ ([] : List Int)) ↔ (y ∈ nodes l ∧ y ∉ ([] : List Int)) := by
        rw [nodes_snoc]
        constructor
        · rintro ⟨h | h | h, h3⟩
          · exact ⟨h, h3⟩
          · exact absurd h h2
          · exact absurd h h1
        · rintro ⟨h, h3⟩
          exact ⟨.inl h, h3⟩
      simp only [this]
/-- While the pairs of the one that has come are taken off: k of them are done. -/
def offN (l : List Dp) (out : List Int) (x : Int) (k : Nat) (y : Int) : Option Int := if y ∈ nodes l ∧ y ∉ out ∧ y ≠ x then some (((cntA l out y : Nat) : Int) - (((l.take k).countP fun p => p.i == x && p.j == y : Nat) : Int)) else none
theorem off_zero (l : List Dp) (out : List Int) (x : Int) : delN (restN l out) x = offN l out x 0 := by
  funext y
  unfold delN restN offN
  by_cases h : y = x
  · rw [if_pos h, if_neg (fun e => e.2.2 h)]
  · rw [if_neg h]
    by_cases h2 : y ∈ nodes l ∧ y ∉ out
    · rw [if_pos h2, if_pos ⟨h2.1, h2.2, h⟩]; simp
    · rw [if_neg h2, if_neg (fun e => h2 ⟨e.1, e.2.1⟩)]
theorem off_all {l : List Dp} {out : List Int} {x : Int} (hx : x ∉ out) : offN l out x l.length = restN l (out ++ [x]) := by
  funext y
  unfold offN restN
  rw [List.take_length]
  have key : ∀ q : List Dp, (q.countP fun p => p.j == y && !out.contains p.i) = (q.countP fun p => p.j == y && !(out ++ [x]).contains p.i) + q.countP fun p => p.i == x && p.j == y := fun q => by
    induction q with
    | nil => rfl
    | cons p q ih =>
      simp only [List.countP_cons, ih]
      by_cases hj : p.j = y
      · by_cases hi : p.i = x
        · simp [hj, hi, hx]; omega
        · by_cases ho : p.i ∈ out
          · simp [hj, hi, ho]
          · simp [hj, hi, ho]; omega
      · simp [hj]
  by_cases h : y ∈ nodes l ∧ y ∉ out ∧ y ≠ x
  · rw [if_pos h, if_pos ⟨h.1, by simp [h.2.1, h.2.2]⟩]
    have := key l
    unfold cntA
    congr 1
    omega
  · rw [if_neg h, if_neg]
    rintro ⟨h1, h2⟩
    simp only [List.mem_append, List.mem_singleton, not_or] at h2
    exact h ⟨h1, h2.1, h2.2⟩
theorem off_other {l : List Dp} {out : List Int} {x : Int} {k : Nat} (hk : k < l.length) (h : (l.getD k .z).i ≠ x) : offN l out x (k + 1) = offN l out x k := by
  funext y
  unfold offN
  have e : l.take (k + 1) = l.take k ++ [l.getD k .z] := by
    rw [List.take_succ_eq_append_getElem hk, List.getD_eq_getElem?_getD, List.getElem?_eq_getElem hk]; rfl
  rw [e, List.countP_append]
  generalize l.getD k .z = p at *
  simp [h]
theorem off_one {l : List Dp} {out : List Int} {x : Int} {k : Nat} (hk : k < l.length) (h : (l.getD k .z).i = x) (h1 : (l.getD k .z).j ∉ out) (h2 : (l.getD k .z).j ≠ x) : offN l out x (k + 1) = putN (offN l out x k) (l.getD k .z).j ((offN l out x k (l.getD k .z).j).getD 0 - 1) := by
  have e : l.take (k + 1) = l.take k ++ [l.getD k .z] := by
    rw [List.take_succ_eq_append_getElem hk, List.getD_eq_getElem?_getD, List.getElem?_eq_getElem hk]; rfl
  have hm : l.getD k .z ∈ l := by rw [List.getD_eq_getElem?_getD, List.getElem?_eq_getElem hk]; exact List.getElem_mem _
  funext y
  unfold putN offN
  rw [e, List.countP_append]
  generalize l.getD k .z = p at *
  by_cases hy : y = p.j
  · subst hy
    rw [if_pos ⟨nodes_j hm, h1, h2⟩, if_pos rfl, if_pos ⟨nodes_j hm, h1, h2⟩]
    simp [h]
    omega
  · rw [if_neg hy]
    have : ¬ p.j = y := fun e => hy e.symm
    simp [this]
/-- The one that comes leads to none that has come, nor to itself. -/
theorem free_leads {l : List Dp} {out : List Int} {x : Int} (ho : Rk l out) (hx : Free l out x) {p : Dp} (hp : p ∈ l) (hi : p.i = x) : p.j ∉ out ∧ p.j ≠ x := by
  refine ⟨fun h => ?_, fun e => ?_⟩
  · obtain ⟨k, hk, e⟩ := List.getElem_of_mem h
    obtain ⟨m, -, hm⟩ := ho.ahead k p.j (by rw [List.getElem?_eq_getElem hk, e]) p hp rfl
    rw [hi] at hm
    exact hx.2.1 (List.mem_of_getElem? hm)
  · have := cntA_zero.1 hx.2.2 p hp e
    rw [hi] at this
    exact hx.2.1 this
end Go.Proofs.Ytfcimbhjoioinaa
