/-
  Clocks: rows of clocks, as ghost data.
-/
import Derived.Test.YtgadbofnccakgaaCw
namespace Go.Proofs.Ytgadbofnccakgaa

def zrow (th : Nat) : List Nat := List.replicate th 0
theorem zrow_eq (th : Nat) : List.replicate th (D.v (.int .i64 0)) = nsD (zrow th) := by simp [zrow, nsD]
/-- The first rows, one that is being reckoned, and those behind it. -/
def gridD (cl : List (List Nat)) (c : List Nat) (n th : Nat) : List (List D) := cl.map nsD ++ nsD c :: List.replicate (n - 1 - cl.length) (nsD (zrow th))
def headD (cl : List (List Nat)) (n th : Nat) : List (List D) := cl.map nsD ++ List.replicate (n - cl.length) (nsD (zrow th))
theorem headD_eq {cl : List (List Nat)} {n th : Nat} (h : cl.length < n) : headD cl n th = gridD cl (zrow th) n th := by
  unfold headD gridD
  rw [show n - cl.length = (n - 1 - cl.length) + 1 from by omega, List.replicate_succ]
theorem gridD_step (cl : List (List Nat)) (c : List Nat) (n th : Nat) : gridD cl c n th = headD (cl ++ [c]) n th := by
  unfold headD gridD
  rw [List.map_append, List.append_assoc, List.length_append, List.length_singleton, show n - (cl.length + 1) = n - 1 - cl.length from by omega]; rfl
theorem headD_len {cl : List (List Nat)} {n th : Nat} (h : cl.length ≤ n) : (headD cl n th).length = n := by
  unfold headD; rw [List.length_append, List.length_map, List.length_replicate]; omega
theorem headD_all {cl : List (List Nat)} {n th : Nat} (h : cl.length = n) : headD cl n th = cl.map nsD := by
  unfold headD; rw [h, Nat.sub_self]; simp
theorem gridD_len {cl : List (List Nat)} {c : List Nat} {n th : Nat} (h : cl.length < n) : (gridD cl c n th).length = n := by
  unfold gridD; rw [List.length_append, List.length_map, List.length_cons, List.length_replicate]; omega
theorem gridD_at {cl : List (List Nat)} (c : List Nat) (n th : Nat) {j : Nat} (hj : cl.length = j) : (gridD cl c n th)[j]? = some (nsD c) := by
  unfold gridD
  rw [List.getElem?_append_right (by rw [List.length_map]; omega), List.length_map, hj, Nat.sub_self]; rfl
theorem gridD_lo {cl : List (List Nat)} (c : List Nat) (n th : Nat) {i : Nat} {r : List Nat} (h : cl[i]? = some r) : (gridD cl c n th)[i]? = some (nsD r) := by
  unfold gridD
  have hi := (List.getElem?_eq_some_iff.1 h).1
  rw [List.getElem?_append_left (by rw [List.length_map]; exact hi), List.getElem?_map, h]; rfl
theorem gridD_set {cl : List (List Nat)} (c c' : List Nat) (n th : Nat) {j : Nat} (hj : cl.length = j) : (gridD cl c n th).set j (nsD c') = gridD cl c' n th := by
  unfold gridD
  rw [List.set_append_right _ _ (by rw [List.length_map]; omega), List.length_map, hj, Nat.sub_self]; rfl
theorem nsD_set (c : List Nat) (t m : Nat) : (nsD c).set t (nD m) = nsD (c.set t m) := by simp [nsD, List.map_set]
theorem nsD_get {c : List Nat} {t : Nat} (h : t < c.length) : (nsD c)[t]? = some (nD (c.getD t 0)) := by
  rw [nsD, List.getElem?_map, List.getElem?_eq_getElem h]; simp [List.getD, h]
theorem grid_set {cl : List (List Nat)} (c : List Nat) (n th t m : Nat) {j : Nat} (hj : cl.length = j) : (gridD cl c n th).set j ((nsD c).set t (nD m)) = gridD cl (c.set t m) n th := by rw [nsD_set, gridD_set _ _ _ _ hj]
/-- The greater ones up to t. -/
def supTo (c r : List Nat) (t : Nat) : List Nat := (supv c r).take t ++ c.drop t
theorem supTo_zero (c r : List Nat) : supTo c r 0 = c := by simp [supTo]
theorem supTo_len {c r : List Nat} {n : Nat} (hc : c.length = n) (hr : r.length = n) (t : Nat) (ht : t ≤ n) : (supTo c r t).length = n := by
  unfold supTo
  rw [List.length_append, List.length_take, List.length_drop, supv_len hc hr]; omega
theorem supTo_all {c r : List Nat} {n : Nat} (hc : c.length = n) (hr : r.length = n) : supTo c r n = supv c r := by
  unfold supTo
  rw [List.take_of_length_le (by rw [supv_len hc hr]; exact Nat.le_refl _), List.drop_of_length_le (by omega), List.append_nil]
theorem supTo_get {c r : List Nat} {n t : Nat} (hc : c.length = n) (hr : r.length = n) (ht : t < n) : (supTo c r t).getD t 0 = c.getD t 0 := by
  unfold supTo
  have hl : ((supv c r).take t).length = t := by rw [List.length_take, supv_len hc hr]; omega
  simp only [List.getD]
  rw [List.getElem?_append_right (by omega), hl, Nat.sub_self, List.getElem?_drop, Nat.add_zero]
theorem supTo_step {c r : List Nat} {n t : Nat} (hc : c.length = n) (hr : r.length = n) (ht : t < n) : (supTo c r t).set t (max (c.getD t 0) (r.getD t 0)) = supTo c r (t + 1) := by
  unfold supTo
  have hs := supv_len hc hr
  have hl : ((supv c r).take t).length = t := by rw [List.length_take, hs]; omega
  rw [List.set_append_right _ _ (by omega), hl, Nat.sub_self, List.drop_eq_getElem_cons (show t < c.length by omega), List.set_cons_zero, List.take_succ_eq_append_getElem (show t < (supv c r).length by omega), List.append_assoc]
  have e : (supv c r)[t]'(by omega) = max (c.getD t 0) (r.getD t 0) := by
    have := supv_get (t := t) hc hr
    rw [← this]; simp [List.getD, List.getElem?_eq_getElem (show t < (supv c r).length by omega)]
  rw [e]; rfl
/-- Facts on clocks. -/
structure ClkF (ts : List Nat) (th : Nat) (es : List (Nat × Nat)) (n : Nat) (cl : Nat → List (List Nat)) : Prop where
  len : ∀ j, (cl j).length = j
  step : ∀ j, cl (j + 1) = cl j ++ [bump (supR (cl j) (zrow th) (preds es j)) (ts.getD j 0)]
  row : ∀ i j, i < j → j ≤ n → ∃ r, (cl j)[i]? = some r ∧ r.length = th ∧ ∀ t, r.getD t 0 ≤ i + 1
  zero : cl 0 = []
theorem clk_le {ts : List Nat} {th : Nat} {es : List (Nat × Nat)} (hg : Good ts es) (hth : ∀ j, j < ts.length → ts.getD j 0 < th) : ∀ (n j : Nat), j < n → j < ts.length → ∀ t, (rowAt ts th es j).getD t 0 ≤ j + 1
  | n + 1, j, hn, hj, t => by
    obtain ⟨F, h1, h2, h3⟩ := (row_spec hg hth (j + 1) j (by omega) hj).2 t
    have : F ≤ j := by
      rcases h3 with h3 | ⟨i, hi, h3⟩
      · omega
      · have hl := (hg.lt _ hi).1
        have hl : i < j := hl
        have := clk_le hg hth n i (by omega) (by omega) t
        omega
    split at h1 <;> omega
theorem clkF {ts : List Nat} {th : Nat} {es : List (Nat × Nat)} (hg : Good ts es) (hth : ∀ j, j < ts.length → ts.getD j 0 < th) : ClkF ts th es ts.length (clkTo ts th es) := by
  refine ⟨clkTo_len ts th es, fun j => rfl, fun i j hij hj => ?_, rfl⟩
  exact ⟨_, clkTo_get ts th es hij, (row_spec hg hth (i + 1) i (by omega) (by omega)).1, clk_le hg hth (i + 1) i (by omega) (by omega)⟩
theorem sup_ok {ts : List Nat} {th : Nat} {es : List (Nat × Nat)} {n : Nat} {cl : Nat → List (List Nat)} (F : ClkF ts th es n cl) {j : Nat} (hj : j ≤ n) (Is : List Nat) (h : ∀ i ∈ Is, i < j) :
    (supR (cl j) (zrow th) Is).length = th ∧ ∀ t, (supR (cl j) (zrow th) Is).getD t 0 ≤ j := by
  have hI : ∀ i ∈ Is, ((cl j).getD i []).length = th := fun i hi => by
    obtain ⟨r, h1, h2, -⟩ := F.row i j (h i hi) hj
    simp [List.getD, h1, h2]
  refine ⟨(supR_spec (t := 0) Is (zrow th) (by simp [zrow]) hI).1, fun t => ?_⟩
  obtain ⟨-, -, -, h4⟩ := supR_spec (t := t) Is (zrow th) (by simp [zrow]) hI
  rcases h4 with h4 | ⟨i, hi, h4⟩
  · rw [h4]
    have : (zrow th).getD t 0 = 0 := by
      unfold zrow
      by_cases h : t < th <;> simp [List.getD, h]
    omega
  · obtain ⟨r, h1, -, h3⟩ := F.row i j (h i hi) hj
    rw [h4]
    have e : (cl j).getD i [] = r := by simp [List.getD, h1]
    rw [e]
    have := h3 t
    have := h i hi
    omega
theorem preds_hit {es : List (Nat × Nat)} {q I J : Nat} (h : es[q]? = some (I, J)) : preds (es.take (q + 1)) J = preds (es.take q) J ++ [I] := by
  unfold preds
  have hq := (List.getElem?_eq_some_iff.1 h).1
  have he : es[q] = (I, J) := (List.getElem?_eq_some_iff.1 h).2
  rw [List.take_succ_eq_append_getElem hq, List.filter_append, List.map_append, he]
  simp
theorem preds_done {es : List (Nat × Nat)} {q j : Nat} (h : ∀ p ∈ es.drop q, p.2 ≠ j) : preds (es.take q) j = preds es j := by
  unfold preds
  conv => rhs; rw [← List.take_append_drop q es]
  rw [List.filter_append, List.map_append]
  have : (es.drop q).filter (fun p => p.2 == j) = [] := by
    rw [List.filter_eq_nil_iff]
    intro p hp
    simpa using h p hp
  rw [this]; simp
theorem preds_none {es : List (Nat × Nat)} {j : Nat} (h : ∀ p ∈ es, p.2 < j) : preds es j = [] := by
  unfold preds
  have : es.filter (fun p => p.2 == j) = [] := by
    rw [List.filter_eq_nil_iff]
    intro p hp
    have := h p hp
    simp; omega
  rw [this]; rfl
theorem supR_snoc (rows : List (List Nat)) (c : List Nat) (Is : List Nat) (i : Nat) : supR rows c (Is ++ [i]) = supv (supR rows c Is) (rows.getD i []) := by
  unfold supR; rw [List.foldl_append]; rfl
/-- How far the edges have come. -/
structure QI (es : List (Nat × Nat)) (j q : Nat) : Prop where
  le : q ≤ es.length
  lo : ∀ p ∈ es.take q, p.2 ≤ j
  hi : ∀ p ∈ es.drop q, j ≤ p.2
theorem QI.hit {es : List (Nat × Nat)} {j q I : Nat} (h : QI es j q) (hq : es[q]? = some (I, j)) : QI es j (q + 1) := by
  have hl := (List.getElem?_eq_some_iff.1 hq).1
  have he : es[q] = (I, j) := (List.getElem?_eq_some_iff.1 hq).2
  refine ⟨hl, fun p hp => ?_, fun p hp => h.hi p ?_⟩
  · rw [List.take_succ_eq_append_getElem hl] at hp
    rcases List.mem_append.1 hp with hp | hp
    · exact h.lo p hp
    · have : p = (I, j) := by rw [← he]; simpa using hp
      rw [this]; exact Nat.le_refl _
  · rw [List.drop_eq_getElem_cons hl]; exact List.mem_cons_of_mem _ hp
theorem QI.next {es : List (Nat × Nat)} {j q : Nat} (hs : es.Pairwise fun p r => p.2 ≤ r.2) (h : QI es j q) (hn : ∀ I J, es[q]? = some (I, J) → J ≠ j) : QI es (j + 1) q ∧ ∀ p ∈ es.drop q, p.2 ≠ j := by
  have key : ∀ p ∈ es.drop q, j + 1 ≤ p.2 := fun p hp => by
    have h1 := h.hi p hp
    by_cases hq : q < es.length
    · have hs2 := hs.sublist (List.drop_sublist q es)
      rw [List.drop_eq_getElem_cons hq] at hs2 hp
      rw [List.pairwise_cons] at hs2
      have h2 := hn es[q].1 es[q].2 (by rw [List.getElem?_eq_getElem hq])
      have h3 := h.hi es[q] (by rw [List.drop_eq_getElem_cons hq]; exact List.mem_cons_self)
      rcases List.mem_cons.1 hp with rfl | hp
      · omega
      · have := hs2.1 p hp; omega
    · rw [List.drop_of_length_le (by omega)] at hp; cases hp
  exact ⟨⟨h.le, fun p hp => Nat.le_succ_of_le (h.lo p hp), key⟩, fun p hp => by have := key p hp; omega⟩
end Go.Proofs.Ytgadbofnccakgaa
