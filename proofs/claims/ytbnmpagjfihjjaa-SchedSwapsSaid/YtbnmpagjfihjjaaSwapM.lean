/-
  The law of SchedSwaps, over words.
-/
import Derived.Test.YtbnmpagjfihjjaaSwapL
namespace Go.Proofs.Ytbnmpagjfihjjaa
open Go.RowKit

theorem snoc_ind {P : List Nat → Prop} (h0 : P []) (hs : ∀ w a, P w → P (w ++ [a])) (w : List Nat) : P w := by
  have h : ∀ r : List Nat, P r.reverse := fun r => by
    induction r with
    | nil => exact h0
    | cons a r ih => rw [List.reverse_cons]; exact hs _ _ ih
  have := h w.reverse
  rwa [List.reverse_reverse] at this
def Wd (D : List (List Bool)) (w : List Nat) : Prop := ∀ a ∈ w, a < D.length
theorem wd_snoc {D : List (List Bool)} {w : List Nat} {a : Nat} (h : Wd D (w ++ [a])) : Wd D w ∧ a < D.length := ⟨fun x hx => h x (List.mem_append_left _ hx), h a (by simp)⟩
structure Hg (D : List (List Bool)) : Prop where
  self : ∀ i, i < D.length → dg D i i = true
  sym : ∀ i k, i < D.length → k < D.length → dg D i k = dg D k i
theorem hg_of {D : List (List Bool)} (h : hangsM D = true) : Hg D := by
  unfold hangsM at h
  simp only [Bool.and_eq_true, decide_eq_true_eq] at h
  exact ⟨fun i hi => (h.1.1 i hi).2, fun i k hi hk => h.1.2 i hi k hk⟩
theorem rinv_all (D : List (List Bool)) : ∀ w, Wd D w → RInv D (nrm D w) := snoc_ind (fun _ => rinv_zero D) fun w a ih h => by
  rw [nrm_snoc]
  exact rinv_step (nok_all D w) (ih (wd_snoc h).1) (wd_snoc h).2
theorem flat_len (D : List (List Bool)) : ∀ w, Wd D w → (nrm D w).2.flatten.length = w.length := snoc_ind (fun _ => rfl) fun w a ih h => by
  obtain ⟨X, Y, e1, e2, -⟩ := flat_snoc (nok_all D w) (rinv_all D w (wd_snoc h).1) (wd_snoc h).2
  have := ih (wd_snoc h).1
  rw [e1, List.length_append] at this
  rw [nrm_snoc, e2, List.length_append, List.length_cons, List.length_append, List.length_singleton]
  omega
theorem flat_act {D : List (List Bool)} {w : List Nat} (h : Wd D w) : ∀ y ∈ (nrm D w).2.flatten, 0 ≤ y ∧ y < (D.length : Int) := fun y hy => by
  obtain ⟨r, hr, hy⟩ := List.mem_flatten.1 hy
  obtain ⟨j, hj, rfl⟩ := List.getElem_of_mem hr
  have := (rinv_all D w h).act j y (by rw [List.getD_eq_getElem?_getD, List.getElem?_eq_getElem hj]; exact hy)
  omega
theorem nrm_app (D : List (List Bool)) (u v : List Nat) : nrm D (u ++ v) = v.foldl (nst D) (nrm D u) := by
  unfold nrm; rw [List.foldl_append]
/-- The steps, one behind the other, are the same word. -/
theorem nrm_flat {D : List (List Bool)} (hD : Hg D) : ∀ w, Wd D w → nrm D ((nrm D w).2.flatten.map Int.toNat) = nrm D w := snoc_ind (fun _ => rfl) fun w a ih h => by
  obtain ⟨X, Y, e1, e2, e3⟩ := flat_snoc (nok_all D w) (rinv_all D w (wd_snoc h).1) (wd_snoc h).2
  have := ih (wd_snoc h).1
  rw [e1, List.map_append] at this
  rw [nrm_snoc, e2, List.map_append, List.map_cons, Int.toNat_natCast, nrm_app, move (Y.map Int.toNat) _ _ (nok_all D _) fun y hy => ?_, ← nrm_app, ← List.append_assoc, nrm_snoc, this]
  obtain ⟨z, hz, rfl⟩ := List.mem_map.1 hy
  obtain ⟨-, z2, z3⟩ := e3 z hz
  exact ⟨by rw [hD.sym a z.toNat (wd_snoc h).2 z2]; exact z3, z3⟩
/-- Of two that hang on one another the order stays. -/
theorem flat_filter {D : List (List Bool)} (hD : Hg D) {b c : Nat} (hb : b < D.length) (hc : c < D.length) (hbc : dg D b c = true) : ∀ w, Wd D w → (nrm D w).2.flatten.filter (fun x => x == (b : Int) || x == (c : Int)) = (nl w).filter (fun x => x == (b : Int) || x == (c : Int)) := snoc_ind (fun _ => rfl) fun w a ih h => by
  obtain ⟨X, Y, e1, e2, e3⟩ := flat_snoc (nok_all D w) (rinv_all D w (wd_snoc h).1) (wd_snoc h).2
  have hi := ih (wd_snoc h).1
  have hnl : nl (w ++ [a]) = nl w ++ [(a : Int)] := by simp [nl]
  rw [e1] at hi
  rw [nrm_snoc, e2, hnl, List.filter_append, List.filter_append, ← hi, List.filter_append, List.filter_cons]
  by_cases hp : ((a : Int) == (b : Int) || (a : Int) == (c : Int)) = true
  · rw [if_pos hp]
    have hY : Y.filter (fun x => x == (b : Int) || x == (c : Int)) = [] := by
      rw [List.filter_eq_nil_iff]
      intro y hy hq
      obtain ⟨y1, y2, y3⟩ := e3 y hy
      simp only [Bool.or_eq_true, beq_iff_eq] at hp hq
      have hcb : dg D c b = true := by rw [hD.sym c b hc hb]; exact hbc
      have ha : a = b ∨ a = c := by omega
      have hyb : y.toNat = b ∨ y.toNat = c := by omega
      rcases ha with rfl | rfl <;> rcases hyb with e | e <;> rw [e] at y3
      · rw [hD.self _ hb] at y3; cases y3
      · rw [hcb] at y3; cases y3
      · rw [hbc] at y3; cases y3
      · rw [hD.self _ hc] at y3; cases y3
    rw [hY, List.append_nil, List.filter_cons, if_pos hp]
    rfl
  · rw [if_neg hp, List.filter_cons, if_neg hp]
    simp
theorem swap_free {D : List (List Bool)} {a b : Nat} (h1 : dg D a b = false) (h2 : dg D b a = false) (u v : List Nat) : nrm D (u ++ a :: b :: v) = nrm D (u ++ b :: a :: v) := by
  rw [nrm_app, nrm_app]
  simp only [List.foldl_cons]
  rw [nst_comm (nok_all D u) h1 h2]
theorem swap_hang {D : List (List Bool)} (hD : Hg D) {a b : Nat} (hab : dg D a b = true) (hne : a ≠ b) {u v : List Nat} (h : Wd D (u ++ a :: b :: v)) : (nrm D (u ++ a :: b :: v)).2 ≠ (nrm D (u ++ b :: a :: v)).2 := fun e => by
  have ha := h a (by simp)
  have hb := h b (by simp)
  have h2 : Wd D (u ++ b :: a :: v) := fun x hx => h x (by
    simp only [List.mem_append, List.mem_cons] at hx ⊢
    rcases hx with e | e | e | e
    · exact .inl e
    · exact .inr (.inr (.inl e))
    · exact .inr (.inl e)
    · exact .inr (.inr (.inr e)))
  have f1 := flat_filter hD ha hb hab _ h
  have f2 := flat_filter hD ha hb hab _ h2
  rw [e, f2] at f1
  unfold nl at f1
  simp only [List.map_append, List.map_cons, List.filter_append, List.append_cancel_left_eq, List.filter_cons, beq_self_eq_true, Bool.true_or, Bool.or_true, if_true, List.cons.injEq] at f1
  omega
/-! ### What the program says -/
def aliM (l m : List Int) (D : List (List Bool)) : Bool × Int := if (normM l D).2 = 0 then (if (normM m D).2 = 0 then (decide ((normM l D).1 = (normM m D).1), 0) else (false, (normM m D).2)) else (false, (normM l D).2)
theorem norm_ok {l : List Int} {D : List (List Bool)} (h : (normM l D).2 = 0) : checkM l D = 0 := by
  unfold normM at h
  split at h
  · next e => exact e
  · exact h
theorem norm_of {l : List Int} {D : List (List Bool)} (h : checkM l D = 0) : normM l D = ((nrm D (l.map Int.toNat)).2, 0) := by unfold normM; rw [if_pos h]
theorem norm_no {l : List Int} {D : List (List Bool)} (h : (normM l D).2 ≠ 0) : (normM l D).1 = [] := by
  unfold normM at *
  split at h
  · exact absurd rfl h
  · next e => rw [if_neg e]
theorem check_as {l m : List Int} {D : List (List Bool)} (h : checkM l D = 0) (hl : m.length = l.length) (hm : ∀ x ∈ m, 0 ≤ x ∧ x < (D.length : Int)) : checkM m D = 0 := by
  obtain ⟨h1, h2, h3, -⟩ := checkM_ok h
  unfold checkM
  rw [if_neg (by omega), if_neg (by rw [h3]; simp), if_neg]
  rw [Bool.not_eq_true, List.any_eq_false]
  intro x hx
  have := hm x hx
  unfold actB
  simp; omega
theorem wd_of {l : List Int} {D : List (List Bool)} (h : checkM l D = 0) : Wd D (l.map Int.toNat) := fun a ha => by
  obtain ⟨x, hx, rfl⟩ := List.mem_map.1 ha
  have := (checkM_ok h).2.2.2.2 x hx
  omega
theorem swaps_flat {l : List Int} {D : List (List Bool)} (h : (normM l D).2 = 0) : (normM l D).1.flatten.length = l.length ∧ aliM l (normM l D).1.flatten D = (true, 0) := by
  have hc := norm_ok h
  have hw := wd_of hc
  have hD := hg_of (checkM_ok hc).2.2.1
  have hn := norm_of hc
  have hlen : (normM l D).1.flatten.length = l.length := by rw [hn]; dsimp only; rw [flat_len D _ hw, List.length_map]
  have hc2 : checkM (normM l D).1.flatten D = 0 := check_as hc hlen (by rw [hn]; exact flat_act hw)
  refine ⟨hlen, ?_⟩
  unfold aliM
  rw [if_pos h, norm_of hc2]
  dsimp only
  rw [if_pos rfl]
  congr 1
  rw [decide_eq_true_iff, hn]
  dsimp only
  rw [nrm_flat hD _ hw]
theorem swaps_two {u v : List Int} {x y : Int} {D : List (List Bool)} (h : (normM (u ++ x :: y :: v) D).2 = 0) (hne : x ≠ y) : aliM (u ++ x :: y :: v) (u ++ y :: x :: v) D = (!dg D x.toNat y.toNat, 0) := by
  have hc := norm_ok h
  have hw := wd_of hc
  have hall := (checkM_ok hc).2.2.2.2
  have hD := hg_of (checkM_ok hc).2.2.1
  have hn := norm_of hc
  have hx := hall x (by simp)
  have hy := hall y (by simp)
  have hc2 : checkM (u ++ y :: x :: v) D = 0 := check_as hc (by simp) fun z hz => hall z (by
    simp only [List.mem_append, List.mem_cons] at hz ⊢
    rcases hz with e | e | e | e
    · exact .inl e
    · exact .inr (.inr (.inl e))
    · exact .inr (.inl e)
    · exact .inr (.inr (.inr e)))
  unfold aliM
  rw [if_pos h, norm_of hc2, hn]
  dsimp only
  rw [if_pos rfl]
  congr 1
  rw [List.map_append, List.map_cons, List.map_cons] at hw ⊢
  rw [List.map_append, List.map_cons, List.map_cons]
  have hxy : x.toNat ≠ y.toNat := by omega
  cases hd : dg D x.toNat y.toNat with
  | true => rw [Bool.not_true, decide_eq_false_iff_not]; exact swap_hang hD hd hxy hw
  | false => rw [Bool.not_false, decide_eq_true_iff, swap_free hd (by rw [hD.sym _ _ (by omega) (by omega)]; exact hd)]
end Go.Proofs.Ytbnmpagjfihjjaa
