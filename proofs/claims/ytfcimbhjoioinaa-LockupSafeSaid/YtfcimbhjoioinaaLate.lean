/-
  A region that draws its order and writes at its end what it has read: the reading operations hold in a class of worlds that the first late store may leave.
-/
import Derived.Test.YtfcimbhjoioinaaPlan
namespace Go.Proofs.Ytfcimbhjoioinaa
open Go.RowKit

section
variable {P : Program} {md : Region.Mode} {ops : Array Oper} {C : World → Prop} {Q : Exit → Act → World → Prop} {k : Nat}

/-- Whatever order is picked: C holds behind every operation up to number k; behind that nothing is asked. -/
def wpAnyL (P : Program) (md : Region.Mode) (ops : Array Oper) (Q : Exit → Act → World → Prop) (C : World → Prop) (k : Nat) : Nat → Array Bool → Act → World → Prop
  | 0, listed, a, w => Region.ready md ops listed = [] ∧ Q .normal a w
  | fuel + 1, listed, a, w =>
    (Region.ready md ops listed = [] → Q .normal a w) ∧
    ∀ i ∈ Region.ready md ops listed, wpOp P ops Q i (fun a' w' => (i = k → wpAnyH P md ops Q (fun _ => True) fuel (listed.setIfInBounds i true) a' w') ∧ (i ≠ k → C w' ∧ wpAnyL P md ops Q C k fuel (listed.setIfInBounds i true) a' w')) a w

theorem wpAny_of_late : ∀ (fuel : Nat) (listed : Array Bool) (a : Act) (w : World), wpAnyL P md ops Q C k fuel listed a w → wpAny P md ops Q fuel listed a w
  | 0, _, _, _, h => h
  | fuel + 1, _, _, _, h => ⟨h.1, fun i hi => wpOp_mono (fun a' w' h' => by
      by_cases e : i = k
      · exact wpAny_of_held _ _ _ _ (h'.1 e)
      · exact wpAny_of_late fuel _ a' w' (h'.2 e).2) (h.2 i hi)⟩

/-- k waits for i. -/
def Waits (md : Region.Mode) (ops : Array Oper) (k i : Nat) : Prop := ∀ ok, ops[k]? = some ok → ∃ e ∈ ok.after, Region.binds md e = true ∧ e.on = i

theorem late_first {i : Nat} {oi : Oper} {v : Value} (hi : ops[i]? = some oi) (hsel : ∀ (j : Nat) (o : Oper) cs b, ops[j]? = some o → o.op ≠ .select cs b)
    (hQ : ∀ c a w, Q (.panic c) (a.put oi.dst v) w → Q (.panic c) a w) (hik : i ≠ k) :
    ∀ (fuel : Nat) (listed : Array Bool) (a : Act) (w : World),
      (∀ j oj, ops[j]? = some oj → j ≠ i → listed.getD j true = false → (∀ e ∈ oj.after, Region.binds md e = true → e.on ≠ i) → oi.apart ops oj = true) →
      i ∈ Region.ready md ops listed → (YieldsIf P ops (fun _ => True) oi v a ∨ (Waits md ops k i ∧ YieldsIf P ops C oi v a)) → C w →
      wpAnyL P md ops Q C k fuel (listed.setIfInBounds i true) (a.put oi.dst v) w → wpAnyL P md ops Q C k (fuel + 1) listed a w := by
  intro fuel
  induction fuel with
  | zero =>
    intro listed a w _ hr hy hS H
    refine ⟨fun h => (by rw [h] at hr; cases hr), fun j hj => ?_⟩
    by_cases hji : j = i
    · subst hji
      rcases hy with hy | ⟨-, hy⟩
      · exact hy.wpOp hi trivial ⟨fun e => absurd e hik, fun _ => ⟨hS, H⟩⟩
      · exact hy.wpOp hi hS ⟨fun e => absurd e hik, fun _ => ⟨hS, H⟩⟩
    · have := ready_mono hj hji
      rw [H.1] at this
      cases this
  | succ fuel ih =>
    intro listed a w hfree hr hy hS H
    refine ⟨fun h => (by rw [h] at hr; cases hr), fun j hj => ?_⟩
    by_cases hji : j = i
    · subst hji
      rcases hy with hy | ⟨-, hy⟩
      · exact hy.wpOp hi trivial ⟨fun e => absurd e hik, fun _ => ⟨hS, H⟩⟩
      · exact hy.wpOp hi hS ⟨fun e => absurd e hik, fun _ => ⟨hS, H⟩⟩
    · have h1 := H.2 j (ready_mono hj hji)
      obtain ⟨hjun, oj, hoj, hall⟩ := mem_ready.1 hj
      have hnot : ∀ e ∈ oj.after, Region.binds md e = true → e.on ≠ i := fun e he hb heq => by
        have h1 := hall e he hb
        have h0 := (mem_ready.1 hr).1
        rw [heq] at h1
        rcases Nat.lt_or_ge i listed.size with h' | h'
        · simp [h'] at h0 h1; rw [h0] at h1; cases h1
        · simp [Array.getElem?_eq_none h'] at h1
      have hap := hfree j oj hoj hji hjun hnot
      have hfree' : ∀ n on, ops[n]? = some on → n ≠ i → (listed.setIfInBounds j true).getD n true = false →
          (∀ e ∈ on.after, Region.binds md e = true → e.on ≠ i) → oi.apart ops on = true := fun n on hn hni hun hno => by
        refine hfree n on hn hni ?_ hno
        by_cases hjk : j = n
        · subst hjk; exact hjun
        · rw [getD_set_ne true hjk] at hun; exact hun
      have hready := ready_mono hr (Ne.symm hji)
      rcases hy with hy | ⟨hw, hy⟩
      · have h2 := wpOp_putIf hoj hap (fun cs b => hsel i oi cs b hi) (fun cs b => hsel j oj cs b hoj) hQ hy h1
        refine wpOp_mono (fun a' w' h3 => ⟨fun e => ?_, fun e => ?_⟩) h2
        · have h4 := h3.2.1 e
          rw [Array.setIfInBounds_comm _ _ (Ne.symm hji)] at h4
          exact wpAnyH_first hi hsel hQ fuel (listed.setIfInBounds j true) a' w' hfree' hready h3.1 trivial h4
        · obtain ⟨h4, h5⟩ := h3.2.2 e
          rw [Array.setIfInBounds_comm _ _ (Ne.symm hji)] at h5
          exact ⟨h4, ih (listed.setIfInBounds j true) a' w' hfree' hready (.inl h3.1) h4 h5⟩
      · have hjk : j ≠ k := fun e => by
          subst e
          obtain ⟨e, he, hb, hon⟩ := hw oj hoj
          exact hnot e he hb hon
        have h2 := wpOp_putIf hoj hap (fun cs b => hsel i oi cs b hi) (fun cs b => hsel j oj cs b hoj) hQ hy h1
        refine wpOp_mono (fun a' w' h3 => ⟨fun e => absurd e hjk, fun e => ?_⟩) h2
        obtain ⟨h4, h5⟩ := h3.2.2 e
        rw [Array.setIfInBounds_comm _ _ (Ne.symm hji)] at h5
        exact ⟨h4, ih (listed.setIfInBounds j true) a' w' hfree' hready (.inr ⟨hw, h3.1⟩) h4 h5⟩
end

/-- A plan with a late store: reading operations that hold whatever the world is ('free'); stretches as in Plan; then number k, and a plan of what is behind it. -/
inductive LPlan where
  | free (seg : List Nat) (p : LPlan)
  | one (seg : List Nat) (i : Nat) (p : LPlan)
  | two (seg : List Nat) (i : Nat) (p : LPlan) (j : Nat) (q : LPlan)
  | late (seg : List Nat) (p : Plan)
def LPlan.len : LPlan → Nat
  | .free seg p => seg.length + p.len
  | .one seg _ p => seg.length + (p.len + 1)
  | .two seg _ p _ _ => seg.length + (p.len + 1)
  | .late seg p => seg.length + (p.len + 1)
def waitsB (ops : Array Oper) (k i : Nat) : Bool := ((ops[k]?).map fun o => o.after.any fun e => Region.binds .any e && e.on == i).getD true
theorem waits_of {ops : Array Oper} {k i : Nat} (h : waitsB ops k i = true) : Waits .any ops k i := fun ok hok => by
  unfold waitsB at h
  rw [hok] at h
  simp only [Option.map_some, Option.getD_some, Array.any_eq_true'] at h
  obtain ⟨e, he, h2⟩ := h
  simp only [Bool.and_eq_true, beq_iff_eq] at h2
  exact ⟨e, he, h2.1, h2.2⟩
def LPlan.ok (ops : Array Oper) (k : Nat) : LPlan → Array Bool → Bool
  | .free seg p, listed => pureOk ops seg listed && ((!seg.contains k) && p.ok ops k (listedBy seg listed))
  | .one seg i p, listed => pureOk ops seg listed && ((seg.all fun i => i != k && waitsB ops k i) && ((i != k) && ((Region.ready .any ops (listedBy seg listed) == [i]) && p.ok ops k ((listedBy seg listed).setIfInBounds i true))))
  | .two seg i p j q, listed => pureOk ops seg listed && ((seg.all fun i => i != k && waitsB ops k i) && ((i != k && j != k) && ((Region.ready .any ops (listedBy seg listed) == [i, j]) && (p.len == q.len && (p.ok ops k ((listedBy seg listed).setIfInBounds i true) && q.ok ops k ((listedBy seg listed).setIfInBounds j true))))))
  | .late seg p, listed => pureOk ops seg listed && ((seg.all fun i => i != k && waitsB ops k i) && ((Region.ready .any ops (listedBy seg listed) == [k]) && p.ok ops ((listedBy seg listed).setIfInBounds k true)))
def wpLate (P : Program) (l : List Oper) (C : World → Prop) (k : Nat) (Q : Exit → Act → World → Prop) : LPlan → Act → World → Prop
  | .free seg p, a, w => wpQuiet P l.toArray (fun _ => True) (fun a' => wpLate P l C k Q p a' w) (pick l seg) a
  | .one seg i p, a, w => wpQuiet P l.toArray C (fun a' => wpList P l.toArray (Exit.then (fun a'' w'' => C w'' ∧ wpLate P l C k Q p a'' w'') Q) (pick l [i]) a' w) (pick l seg) a
  | .two seg i p j q, a, w => wpQuiet P l.toArray C (fun a' => wpList P l.toArray (Exit.then (fun a'' w'' => C w'' ∧ wpLate P l C k Q p a'' w'') Q) (pick l [i]) a' w ∧ wpList P l.toArray (Exit.then (fun a'' w'' => C w'' ∧ wpLate P l C k Q q a'' w'') Q) (pick l [j]) a' w) (pick l seg) a
  | .late seg p, a, w => wpQuiet P l.toArray C (fun a' => wpList P l.toArray (Exit.then (fun a'' w'' => wpPlan P l (fun _ => True) Q p a'' w'') Q) (pick l [k]) a' w) (pick l seg) a

section
variable {P : Program} {l : List Oper} {C : World → Prop} {Q : Exit → Act → World → Prop} {k : Nat}

theorem quiet_step {D : World → Prop} {K : Act → Prop} {i : Nat} {seg : List Nat} {a : Act} {listed : Array Bool} (hm : pureOk l.toArray (i :: seg) listed = true) (h : wpQuiet P l.toArray D K (pick l (i :: seg)) a) :
    ∃ (oi : Oper) (v : Value), l.toArray[i]? = some oi ∧ YieldsIf P l.toArray D oi v a ∧ wpQuiet P l.toArray D K (pick l seg) (a.put oi.dst v) ∧ (Region.ready .any l.toArray listed).contains i = true ∧ Region.free .any l.toArray listed i = true ∧ pureOk l.toArray seg (listed.setIfInBounds i true) = true := by
  simp only [pureOk, Bool.and_eq_true] at hm
  obtain ⟨h1, h2, h3, h4⟩ := hm
  have hil : i < l.length := by
    rcases Nat.lt_or_ge i l.length with h | h
    · exact h
    · simp [List.getElem?_eq_none h] at h1
  have hi : l.toArray[i]? = some l[i] := by simp [hil]
  rw [hi] at h1
  have hp : plainOp l[i].op = true := by simpa using h1
  have e : pick l (i :: seg) = l[i] :: pick l seg := by simp [pick, hil]
  rw [e] at h
  unfold wpQuiet at h
  refine ⟨l[i], ?_⟩
  split at h
  · next hw =>
    obtain ⟨v, hv, hn⟩ := h
    refine ⟨v, hi, .inl ⟨hw, fun w' hw' => ?_⟩, hn, h2, h3, h4⟩
    have hq := hv w' hw'
    unfold Oper.quietAt at hq
    cases hr : (execOp a.eval l[i]).run P w' with
    | ok n w1 =>
      rw [hr] at hq
      obtain ⟨u, rfl⟩ := plain_value hp P w' w1 n hr
      obtain ⟨rfl, rfl⟩ := hq
      rfl
    | halt x w1 => rw [hr] at hq; exact hq.elim
  · next hw => exact ⟨undef, hi, .inr ⟨by simpa using hw, rfl⟩, h, h2, h3, h4⟩

theorem late_free (hQ : ∀ (a a' : Act) (w : World) c, Q (.panic c) a w → Q (.panic c) a' w) (hs : Region.noSelect l.toArray = true) {w : World} (hC : C w) {K : Act → Prop} {n : Nat} :
    ∀ (seg : List Nat) (listed : Array Bool) (a : Act), (∀ a, K a → wpAnyL P .any l.toArray Q C k n (listedBy seg listed) a w) → pureOk l.toArray seg listed = true → seg.contains k = false → wpQuiet P l.toArray (fun _ => True) K (pick l seg) a →
      wpAnyL P .any l.toArray Q C k (seg.length + n) listed a w := by
  intro seg
  induction seg with
  | nil => intro listed a hK _ _ h; simpa [listedBy] using hK a h
  | cons i seg ih =>
    intro listed a hK hm hk h
    obtain ⟨oi, v, hi, hy, hn, h2, h3, h4⟩ := quiet_step hm h
    simp only [List.contains_cons, Bool.or_eq_false_iff, beq_eq_false_iff_ne] at hk
    rw [show (i :: seg).length + n = (seg.length + n) + 1 from by simp; omega]
    exact late_first hi (Region.noSelect_spec hs) (fun c a' w' h => hQ _ _ _ _ h) (fun e => hk.1 e.symm) _ _ _ _ (Region.free_spec hi h3) (by simpa using h2) (.inl hy) hC (ih _ _ hK h4 hk.2 hn)
theorem late_pure (hQ : ∀ (a a' : Act) (w : World) c, Q (.panic c) a w → Q (.panic c) a' w) (hs : Region.noSelect l.toArray = true) {w : World} (hC : C w) {K : Act → Prop} {n : Nat} :
    ∀ (seg : List Nat) (listed : Array Bool) (a : Act), (∀ a, K a → wpAnyL P .any l.toArray Q C k n (listedBy seg listed) a w) → pureOk l.toArray seg listed = true → (seg.all fun i => i != k && waitsB l.toArray k i) = true → wpQuiet P l.toArray C K (pick l seg) a →
      wpAnyL P .any l.toArray Q C k (seg.length + n) listed a w := by
  intro seg
  induction seg with
  | nil => intro listed a hK _ _ h; simpa [listedBy] using hK a h
  | cons i seg ih =>
    intro listed a hK hm hk h
    obtain ⟨oi, v, hi, hy, hn, h2, h3, h4⟩ := quiet_step hm h
    rw [List.all_cons, Bool.and_eq_true, Bool.and_eq_true, bne_iff_ne] at hk
    rw [show (i :: seg).length + n = (seg.length + n) + 1 from by simp; omega]
    exact late_first hi (Region.noSelect_spec hs) (fun c a' w' h => hQ _ _ _ _ h) hk.1.1 _ _ _ _ (Region.free_spec hi h3) (by simpa using h2) (.inr ⟨waits_of hk.1.2, hy⟩) hC (ih _ _ hK h4 hk.2 hn)

theorem wpAnyL_all {rs : List Nat} {fuel : Nat} {listed : Array Bool} {a : Act} {w : World} (hr : Region.ready .any l.toArray listed = rs) (hne : rs ≠ [])
    (h : ∀ i ∈ rs, wpOp P l.toArray Q i (fun a' w' => (i = k → wpAnyH P .any l.toArray Q (fun _ => True) fuel (listed.setIfInBounds i true) a' w') ∧ (i ≠ k → C w' ∧ wpAnyL P .any l.toArray Q C k fuel (listed.setIfInBounds i true) a' w')) a w) : wpAnyL P .any l.toArray Q C k (fuel + 1) listed a w :=
  ⟨fun h0 => absurd (hr ▸ h0) hne, hr ▸ h⟩

theorem late_sound (hQ : ∀ (a a' : Act) (w : World) c, Q (.panic c) a w → Q (.panic c) a' w) (hs : Region.noSelect l.toArray = true) : ∀ (p : LPlan) (listed : Array Bool) (a : Act) (w : World), C w →
    p.ok l.toArray k listed = true → wpLate P l C k Q p a w → wpAnyL P .any l.toArray Q C k p.len listed a w := by
  intro p
  induction p with
  | free seg p ih =>
    intro listed a w hC hm h
    simp only [LPlan.ok, Bool.and_eq_true, Bool.not_eq_true'] at hm
    exact late_free hQ hs hC seg listed a (fun a' h' => ih _ a' w hC hm.2.2 h') hm.1 hm.2.1 h
  | one seg i p ih =>
    intro listed a w hC hm h
    simp only [LPlan.ok, Bool.and_eq_true, beq_iff_eq, bne_iff_ne] at hm
    obtain ⟨h1, h1', hik, h2, h3⟩ := hm
    refine late_pure (n := p.len + 1) hQ hs hC (K := fun a' => wpList P l.toArray (Exit.then (fun a'' w'' => C w'' ∧ wpLate P l C k Q p a'' w'') Q) (pick l [i]) a' w) seg listed a ?_ h1 (by simpa using h1') h
    intro a' h'
    have hil : i < l.length := ready_lt (by rw [h2]; simp)
    refine wpAnyL_all h2 (by simp) fun j hj => ?_
    obtain rfl : j = i := by simpa using hj
    exact wpOp_mono (fun a'' w'' h4 => ⟨fun e => absurd e hik, fun _ => ⟨h4.1, ih _ a'' w'' h4.1 h3 h4.2⟩⟩) (mix_op hil h')
  | two seg i p j q ihp ihq =>
    intro listed a w hC hm h
    simp only [LPlan.ok, Bool.and_eq_true, beq_iff_eq, bne_iff_ne] at hm
    obtain ⟨h1, h1', ⟨hik, hjk⟩, h2, h3, h4, h5⟩ := hm
    refine late_pure (n := p.len + 1) hQ hs hC (K := fun a' => wpList P l.toArray (Exit.then (fun a'' w'' => C w'' ∧ wpLate P l C k Q p a'' w'') Q) (pick l [i]) a' w ∧ wpList P l.toArray (Exit.then (fun a'' w'' => C w'' ∧ wpLate P l C k Q q a'' w'') Q) (pick l [j]) a' w) seg listed a ?_ h1 (by simpa using h1') h
    intro a' h'
    have hil : i < l.length := ready_lt (by rw [h2]; simp)
    have hjl : j < l.length := ready_lt (by rw [h2]; simp)
    refine wpAnyL_all h2 (by simp) fun m hm => ?_
    rcases (by simpa using hm : m = i ∨ m = j) with rfl | rfl
    · exact wpOp_mono (fun a'' w'' h6 => ⟨fun e => absurd e hik, fun _ => ⟨h6.1, ihp _ a'' w'' h6.1 h4 h6.2⟩⟩) (mix_op hil h'.1)
    · exact wpOp_mono (fun a'' w'' h6 => ⟨fun e => absurd e hjk, fun _ => ⟨h6.1, by rw [h3]; exact ihq _ a'' w'' h6.1 h5 h6.2⟩⟩) (mix_op hjl h'.2)
  | late seg p =>
    intro listed a w hC hm h
    simp only [LPlan.ok, Bool.and_eq_true, beq_iff_eq] at hm
    obtain ⟨h1, h1', h2, h3⟩ := hm
    refine late_pure (n := p.len + 1) hQ hs hC (K := fun a' => wpList P l.toArray (Exit.then (fun a'' w'' => wpPlan P l (fun _ => True) Q p a'' w'') Q) (pick l [k]) a' w) seg listed a ?_ h1 h1' h
    intro a' h'
    have hkl : k < l.length := ready_lt (by rw [h2]; simp)
    refine wpAnyL_all h2 (by simp) fun j hj => ?_
    obtain rfl : j = k := by simpa using hj
    exact wpOp_mono (fun a'' w'' h4 => ⟨fun _ => plan_sound hQ hs p _ a'' w'' trivial h3 h4, fun e => absurd rfl e⟩) (mix_op hkl h')

/-- **A region that draws its order, along a plan with a late store.** No operation may panic. -/
theorem wp_region_late {id : Nat} {a : Act} {w : World} {ls : List Oper} (C : World → Prop) (k : Nat) (p : LPlan) (hl : ls = l) (hm : P.follows .mixedOrders = true) (hs : Region.noSelect ls.toArray = true)
    (hB : (p.ok ls.toArray k (Array.replicate ls.length false) && p.len == ls.length) = true)
    (hC : C { w with drawn := w.drawn + 1 }) (h : wpLate P l C k (NoPanic Q) p a { w with drawn := w.drawn + 1 }) : (Code.region id ls.toArray true).wp P Q a w := by
  subst hl
  rw [Bool.and_eq_true, beq_iff_eq] at hB
  refine wp_region_noPanic (wp_region_any hm (wpAny_of_late _ _ _ _ (C := C) (k := k) ?_))
  have := late_sound (Q := NoPanic Q) (fun _ _ _ _ h => h.elim) hs p (Array.replicate ls.length false) a _ hC hB.1 h
  rw [hB.2] at this
  simpa using this
theorem wpLate_free {seg : List Nat} {p : LPlan} {a : Act} {w : World}
    (h : ∀ K : Act → Prop, (∀ a, wpLate P l C k Q p a w → K a) → wpQuiet P l.toArray (fun _ => True) K (pick l seg) a) : wpLate P l C k Q (.free seg p) a w :=
  h _ fun _ h => h
theorem wpLate_one {seg : List Nat} {i : Nat} {p : LPlan} {a : Act} {w : World}
    (h : ∀ K : Act → World → Prop, (∀ a w, wpLate P l C k Q p a w → K a w) → wpQuiet P l.toArray C (fun a' => wpList P l.toArray (Exit.then (fun a'' w'' => C w'' ∧ K a'' w'') Q) (pick l [i]) a' w) (pick l seg) a) : wpLate P l C k Q (.one seg i p) a w :=
  h _ fun _ _ h => h
theorem wpLate_two {seg : List Nat} {i : Nat} {p : LPlan} {j : Nat} {q : LPlan} {a : Act} {w : World}
    (h : ∀ K K' : Act → World → Prop, (∀ a w, wpLate P l C k Q p a w → K a w) → (∀ a w, wpLate P l C k Q q a w → K' a w) → wpQuiet P l.toArray C (fun a' => wpList P l.toArray (Exit.then (fun a'' w'' => C w'' ∧ K a'' w'') Q) (pick l [i]) a' w ∧ wpList P l.toArray (Exit.then (fun a'' w'' => C w'' ∧ K' a'' w'') Q) (pick l [j]) a' w) (pick l seg) a) : wpLate P l C k Q (.two seg i p j q) a w :=
  h _ _ (fun _ _ h => h) (fun _ _ h => h)
theorem wpLate_late {seg : List Nat} {p : Plan} {a : Act} {w : World}
    (h : ∀ K : Act → World → Prop, (∀ a w, wpPlan P l (fun _ => True) Q p a w → K a w) → wpQuiet P l.toArray C (fun a' => wpList P l.toArray (Exit.then (fun a'' w'' => K a'' w'') Q) (pick l [k]) a' w) (pick l seg) a) : wpLate P l C k Q (.late seg p) a w :=
  h _ fun _ _ h => h
end

/-- A class of worlds, as the quiet walk wants it: '∃ p : Cls C, w = p.w'. -/
structure Cls (C : World → Prop) where
  w : World
  h : C w
theorem cls_mk {C : World → Prop} {w : World} (h : C w) : ∃ p : Cls C, w = p.w := ⟨⟨w, h⟩, rfl⟩
theorem cls_ne {C : World → Prop} {w : World} (h : C w) : Nonempty (Cls C) := ⟨⟨w, h⟩⟩
end Go.Proofs.Ytfcimbhjoioinaa
