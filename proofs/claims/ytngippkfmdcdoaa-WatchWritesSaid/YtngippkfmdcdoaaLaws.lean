/-
  The plain laws of the package watch.
-/
import Derived.Test.YtngippkfmdcdoaaParts
namespace Go.Proofs.Ytngippkfmdcdoaa

theorem wr_in {e : Ev} {c q : Int} (h : e.wr c q = true) : e.inSlot c q = true := by
  unfold Ev.wr at h
  exact (Bool.and_eq_true _ _ ▸ h).1
theorem in_slot {e : Ev} {c q : Int} (h : e.inSlot c q = true) : e.isRW = true ∧ e.A = c ∧ e.B = q := by
  unfold Ev.inSlot at h
  simp only [Bool.and_eq_true, beq_iff_eq] at h
  exact ⟨h.1, h.2.1, h.2.2⟩
theorem told_read {e : Ev} {c q : Int} (h : e.inSlot c q = true) (hw : e.wr c q = false) : e.told = (e.v1, e.v2) := by
  unfold Ev.wr at hw
  rw [h, Bool.true_and] at hw
  unfold Ev.told
  rw [hw]
  simp

theorem whole_fit {l : List Ev} (hc : chk l.length 0 = 0) (h : (wholeM l).2.1 = false) : ∀ j, j < l.length → bad l j = false := by
  unfold wholeM at h
  rw [if_pos hc] at h
  cases h1 : firstFrom (bad l) 0 l.length with
  | none => exact fun j hj => firstFrom_eq_none h1 j (Nat.zero_le _) (by omega)
  | some k => rw [h1] at h; simp at h

/-- An event in a slot tells what the last one in that slot ahead of it has left. -/
theorem fit_at {l : List Ev} {j j' : Nat} {c q : Int} (hb : bad l j = false) (hj : (at_ l j).inSlot c q = true) (hl : lastBelow (fun i => (at_ l i).inSlot c q) j = some j') : (at_ l j).told = ((at_ l j').v1, (at_ l j').v2) := by
  obtain ⟨h1, h2, h3⟩ := in_slot hj
  unfold bad known at hb
  rw [h1, h2, h3, hl] at hb
  simp only [Bool.true_and, decide_eq_false_iff_not, Decidable.not_not] at hb
  exact hb.symm

theorem val_stays {l : List Ev} {k : Nat} {c q : Int} (hb : ∀ j, j < l.length → bad l j = false) (hk : (at_ l k).inSlot c q = true) :
    ∀ n j, j < n → n ≤ l.length → k ≤ j → (∀ i, k < i → i ≤ j → (at_ l i).wr c q = false) → (at_ l j).inSlot c q = true → ((at_ l j).v1, (at_ l j).v2) = ((at_ l k).v1, (at_ l k).v2) := by
  intro n
  induction n with
  | zero => intro j h; omega
  | succ n ih =>
    intro j hj hn hkj hno hin
    by_cases e : k = j
    · subst e; rfl
    · cases hl : lastBelow (fun i => (at_ l i).inSlot c q) j with
      | none => have := lastBelow_eq_none hl k (by omega); rw [hk] at this; cases this
      | some j' =>
        obtain ⟨h1, h2, h3⟩ := lastBelow_eq hl
        have hkj' : k ≤ j' := by
          rcases Nat.lt_or_ge j' k with h | h
          · have := h3 k h (by omega); rw [hk] at this; cases this
          · exact h
        have ht := fit_at (hb j (by omega)) hin hl
        rw [told_read hin (hno j (by omega) (Nat.le_refl _))] at ht
        rw [ht]
        exact ih j' (by omega) (by omega) hkj' (fun i h4 h5 => hno i h4 (by omega)) h2

theorem value_of_last {l : List Ev} {c q : Int} {n k : Nat} (hn : n ≤ l.length) (hc : chk l.length n = 0) (hb : ∀ j, j < l.length → bad l j = false) (hl : lastBelow (fun j => (at_ l j).wr c q) n = some k) :
    valueM l c q n = (((at_ l k).v1, (at_ l k).v2), true, 0) := by
  obtain ⟨h1, h2, h3⟩ := lastBelow_eq hl
  have hk := wr_in h2
  unfold valueM
  rw [if_pos hc, Int.toNat_natCast]
  cases hv : lastBelow (fun j => (at_ l j).inSlot c q) n with
  | none => have := lastBelow_eq_none hv k h1; rw [hk] at this; cases this
  | some j =>
    obtain ⟨g1, g2, g3⟩ := lastBelow_eq hv
    have hkj : k ≤ j := by
      rcases Nat.lt_or_ge j k with h | h
      · have := g3 k h h1; rw [hk] at this; cases this
      · exact h
    simp only
    rw [val_stays hb hk (j + 1) j (Nat.lt_succ_self _) (by omega) hkj (fun i a b => h3 i a (by omega)) g2]

/-- Is there any event of the slot? -/
theorem value_is {l : List Ev} {c q : Int} {n : Nat} (hn : n ≤ l.length) (hc : chk l.length n = 0) : (valueM l c q n).2.1 = (firstFrom (fun j => (at_ l j).inSlot c q) 0 l.length).isSome := by
  unfold valueM
  rw [if_pos hc, Int.toNat_natCast]
  cases hv : lastBelow (fun j => (at_ l j).inSlot c q) n with
  | some j =>
    obtain ⟨h1, h2, -⟩ := lastBelow_eq hv
    cases hf : firstFrom (fun j => (at_ l j).inSlot c q) 0 l.length with
    | some j => rfl
    | none => have := firstFrom_eq_none hf j (Nat.zero_le _) (by omega); rw [h2] at this; cases this
  | none =>
    cases hg : firstFrom (fun j => (at_ l j).inSlot c q) n (l.length - n) with
    | some j =>
      obtain ⟨h1, h2, h3, -⟩ := firstFrom_eq hg
      cases hf : firstFrom (fun j => (at_ l j).inSlot c q) 0 l.length with
      | some j => rfl
      | none => have := firstFrom_eq_none hf j (Nat.zero_le _) (by omega); rw [h3] at this; cases this
    | none =>
      cases hf : firstFrom (fun j => (at_ l j).inSlot c q) 0 l.length with
      | none => rfl
      | some j =>
        obtain ⟨h1, h2, h3, -⟩ := firstFrom_eq hf
        rcases Nat.lt_or_ge j n with h | h
        · have := lastBelow_eq_none hv j h; rw [h3] at this; cases this
        · have := firstFrom_eq_none hg j h (by omega); rw [h3] at this; cases this

theorem value_next {l : List Ev} {c q : Int} {n : Nat} (hn : n < l.length) (hc : chk l.length n = 0) (hc1 : chk l.length ((n : Int) + 1) = 0) (hb : ∀ j, j < l.length → bad l j = false) (hw : (at_ l n).wr c q = false) :
    (valueM l c q ((n : Int) + 1)).1 = (valueM l c q n).1 := by
  unfold valueM
  rw [if_pos hc, if_pos hc1, Int.toNat_natCast, show ((n : Int) + 1).toNat = n + 1 from by omega]
  by_cases hin : (at_ l n).inSlot c q = true
  · have e1 : lastBelow (fun j => (at_ l j).inSlot c q) (n + 1) = some n := by simp only [lastBelow]; rw [if_pos hin]
    rw [e1]
    cases hv : lastBelow (fun j => (at_ l j).inSlot c q) n with
    | some j =>
      have ht := fit_at (hb n hn) hin hv
      rw [told_read hin hw] at ht
      exact ht
    | none =>
      have e2 : firstFrom (fun j => (at_ l j).inSlot c q) n (l.length - n) = some n := by
        rw [show l.length - n = (l.length - n - 1) + 1 from by omega]
        simp only [firstFrom]
        rw [if_pos hin]
      rw [e2]
      have : ((at_ l n).k == 4) = false := by
        unfold Ev.wr at hw
        rw [hin, Bool.true_and] at hw
        exact hw
      simp only [this]
      rfl
  · have hin' : (at_ l n).inSlot c q = false := by simpa using hin
    have e1 : lastBelow (fun j => (at_ l j).inSlot c q) (n + 1) = lastBelow (fun j => (at_ l j).inSlot c q) n := by simp only [lastBelow]; rw [if_neg hin]
    rw [e1]
    cases hv : lastBelow (fun j => (at_ l j).inSlot c q) n with
    | some j => rfl
    | none =>
      have e2 : firstFrom (fun j => (at_ l j).inSlot c q) n (l.length - n) = firstFrom (fun j => (at_ l j).inSlot c q) (n + 1) (l.length - (n + 1)) := by
        rw [show l.length - n = (l.length - (n + 1)) + 1 from by omega]
        simp only [firstFrom]
        rw [if_neg hin]
      rw [e2]

/-! ### Cut -/
theorem at_take' {l : List Ev} {n j : Nat} (hj : j < n) : at_ (l.take n) j = at_ l j := by
  unfold at_
  rw [List.getD_eq_getElem?_getD, List.getD_eq_getElem?_getD, List.getElem?_take, if_pos hj]
theorem lastBelow_congr {p p' : Nat → Bool} {n : Nat} (h : ∀ j, j < n → p j = p' j) : lastBelow p n = lastBelow p' n := by
  induction n with
  | zero => rfl
  | succ n ih => simp only [lastBelow]; rw [h n (by omega), ih (fun j hj => h j (by omega))]
theorem bad_take {l : List Ev} {n j : Nat} (hj : j < n) : bad (l.take n) j = bad l j := by
  unfold bad known
  rw [at_take' hj, lastBelow_congr (p' := fun i => (at_ l i).inSlot (at_ l j).A (at_ l j).B) (fun i hi => by rw [at_take' (by omega)])]
  cases hv : lastBelow (fun i => (at_ l i).inSlot (at_ l j).A (at_ l j).B) j with
  | none => rfl
  | some i =>
    obtain ⟨h1, -⟩ := lastBelow_eq hv
    simp only [at_take' (show i < n by omega)]
theorem cut_law {l : List Ev} {n : Nat} (hn : n ≤ l.length) (h2 : l.length ≤ 200) :
    (wholeM (l.take n)).2.2 = 0 ∧ (wholeM (l.take n)).2.1 = ((wholeM l).2.1 && decide ((wholeM l).1 < n)) ∧ ((wholeM (l.take n)).2.1 = true → (wholeM (l.take n)).1 = (wholeM l).1) := by
  have hl : (l.take n).length = n := by simp; omega
  have hc : chk l.length 0 = 0 := chk_of (by omega) (by omega) h2
  have hc' : chk (l.take n).length 0 = 0 := chk_of (by omega) (by omega) (by omega)
  unfold wholeM
  rw [if_pos hc, if_pos hc', hl]
  cases hw : firstFrom (bad l) 0 l.length with
  | none =>
    have : firstFrom (bad (l.take n)) 0 n = none := firstFrom_none (fun x _ h => by rw [bad_take (by omega)]; exact firstFrom_eq_none hw x (Nat.zero_le _) (by omega))
    rw [this]
    simp
  | some k =>
    obtain ⟨g1, g3, g4, g5⟩ := firstFrom_eq hw
    rcases Nat.lt_or_ge k n with h | h
    · have : firstFrom (bad (l.take n)) 0 n = some k := firstFrom_some (Nat.zero_le _) (by omega) (fun x a b => by rw [bad_take (by omega)]; exact g5 x a b) (by rw [bad_take h]; exact g4)
      rw [this]
      simp [h]
    · have : firstFrom (bad (l.take n)) 0 n = none := firstFrom_none (fun x a b => by rw [bad_take (by omega)]; exact g5 x a (by omega))
      rw [this]
      simp
      omega

/-! ### Back -/
theorem writes_some {l : List Ev} {c q : Int} {n k : Nat} (h : lastBelow (fun j => (at_ l j).wr c q) n = some k) : writesUpto l c q n = writesUpto l c q k ++ [(k : Int)] := by
  induction n with
  | zero => simp [lastBelow] at h
  | succ n ih =>
    simp only [lastBelow] at h
    have e : writesUpto l c q (n + 1) = if (at_ l n).wr c q then writesUpto l c q n ++ [(n : Int)] else writesUpto l c q n := by
      unfold writesUpto
      rw [List.range_succ, List.filter_append, List.map_append]
      cases h : (at_ l n).wr c q <;> simp [h]
    rw [e]
    split at h
    · next hw =>
      cases h
      rw [if_pos hw]
    · next hw =>
      rw [if_neg hw]
      exact ih h
theorem writes_none {l : List Ev} {c q : Int} {n : Nat} (h : lastBelow (fun j => (at_ l j).wr c q) n = none) : writesUpto l c q n = [] := by
  unfold writesUpto
  rw [List.map_eq_nil_iff, List.filter_eq_nil_iff]
  intro x hx
  have := lastBelow_eq_none h x (List.mem_range.1 hx)
  simp [this]
end Go.Proofs.Ytngippkfmdcdoaa
