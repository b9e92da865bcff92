/-
  A region that draws its order, some of whose operations may change the world, two of them side by side at most: walked along a plan, a goal for each way of the plan.
-/
import Derived.Test.YtiaaoajnecppnaaMix
namespace Go.Proofs.Ytiaaoajnecppnaa
open Go.RowKit

/-- Reading operations one behind the other; behind them the one, or the two, that may change the world. -/
inductive Plan where
  | last (seg : List Nat)
  | one (seg : List Nat) (i : Nat) (p : Plan)
  | two (seg : List Nat) (i : Nat) (p : Plan) (j : Nat) (q : Plan)

def Plan.len : Plan → Nat
  | .last seg => seg.length
  | .one seg _ p => seg.length + (p.len + 1)
  | .two seg _ p _ _ => seg.length + (p.len + 1)

def pureOk (ops : Array Oper) : List Nat → Array Bool → Bool
  | [], _ => true
  | i :: r, listed => ((ops[i]?).map fun o => plainOp o.op).getD false && ((Region.ready .any ops listed).contains i && (Region.free .any ops listed i && pureOk ops r (listed.setIfInBounds i true)))
def listedBy (seg : List Nat) (listed : Array Bool) : Array Bool := seg.foldl (fun l i => l.setIfInBounds i true) listed

def Plan.ok (ops : Array Oper) : Plan → Array Bool → Bool
  | .last seg, listed => pureOk ops seg listed && (Region.ready .any ops (listedBy seg listed)).isEmpty
  | .one seg i p, listed => pureOk ops seg listed && ((Region.ready .any ops (listedBy seg listed) == [i]) && p.ok ops ((listedBy seg listed).setIfInBounds i true))
  | .two seg i p j q, listed => pureOk ops seg listed && ((Region.ready .any ops (listedBy seg listed) == [i, j]) && (p.len == q.len && (p.ok ops ((listedBy seg listed).setIfInBounds i true) && q.ok ops ((listedBy seg listed).setIfInBounds j true))))

def wpPlan (P : Program) (l : List Oper) (C : World → Prop) (Q : Exit → Act → World → Prop) : Plan → Act → World → Prop
  | .last seg, a, w => wpQuiet P l.toArray C (fun a' => Q .normal a' w) (pick l seg) a
  | .one seg i p, a, w => wpQuiet P l.toArray C (fun a' => wpList P l.toArray (Exit.then (fun a'' w'' => C w'' ∧ wpPlan P l C Q p a'' w'') Q) (pick l [i]) a' w) (pick l seg) a
  | .two seg i p j q, a, w => wpQuiet P l.toArray C (fun a' => wpList P l.toArray (Exit.then (fun a'' w'' => C w'' ∧ wpPlan P l C Q p a'' w'') Q) (pick l [i]) a' w ∧ wpList P l.toArray (Exit.then (fun a'' w'' => C w'' ∧ wpPlan P l C Q q a'' w'') Q) (pick l [j]) a' w) (pick l seg) a

section
variable {P : Program} {l : List Oper} {C : World → Prop} {Q : Exit → Act → World → Prop}

theorem plan_pure (hQ : ∀ (a a' : Act) (w : World) c, Q (.panic c) a w → Q (.panic c) a' w) (hs : Region.noSelect l.toArray = true) {w : World} (hC : C w) {K : Act → Prop} {n : Nat} :
    ∀ (seg : List Nat) (listed : Array Bool) (a : Act), (∀ a, K a → wpAnyH P .any l.toArray Q C n (listedBy seg listed) a w) → pureOk l.toArray seg listed = true → wpQuiet P l.toArray C K (pick l seg) a →
      wpAnyH P .any l.toArray Q C (seg.length + n) listed a w := by
  intro seg
  induction seg with
  | nil => intro listed a hK _ h; simpa [listedBy] using hK a h
  | cons i seg ih =>
    intro listed a hK hm h
    simp only [pureOk, Bool.and_eq_true] at hm
    obtain ⟨h1, h2, h3, h4⟩ := hm
    have hil : i < l.length := by
      rcases Nat.lt_or_ge i l.length with h | h
      · exact h
      · simp [List.getElem?_eq_none h] at h1
    have hi : l.toArray[i]? = some l[i] := by simp [hil]
    rw [hi] at h1
    have hp : plainOp l[i].op = true := by simpa using h1
    have e : pick l (i :: seg) = l[i] :: pick l seg := by simp [pick, hil]
    rw [e] at h
    unfold wpQuiet at h
    have step : ∃ v, YieldsIf P l.toArray C l[i] v a ∧ wpQuiet P l.toArray C K (pick l seg) (a.put l[i].dst v) := by
      split at h
      · next hw =>
        obtain ⟨v, hv, hn⟩ := h
        refine ⟨v, .inl ⟨hw, fun w' hw' => ?_⟩, hn⟩
        have hq := hv w' hw'
        unfold Oper.quietAt at hq
        cases hr : (execOp a.eval l[i]).run P w' with
        | ok n w1 =>
          rw [hr] at hq
          obtain ⟨u, rfl⟩ := plain_value hp P w' w1 n hr
          obtain ⟨rfl, rfl⟩ := hq
          rfl
        | halt x w1 => rw [hr] at hq; exact hq.elim
      · next hw => exact ⟨undef, .inr ⟨by simpa using hw, rfl⟩, h⟩
    obtain ⟨v, hy, hn⟩ := step
    rw [show (i :: seg).length + n = (seg.length + n) + 1 from by simp; omega]
    exact wpAnyH_take hi hs h3 h2 (fun c a' w' h => hQ _ _ _ _ h) hy hC (ih _ _ hK h4 hn)

theorem ready_lt {listed : Array Bool} {i : Nat} (h : i ∈ Region.ready .any l.toArray listed) : i < l.length := by
  obtain ⟨-, o, ho, -⟩ := mem_ready.1 h
  rcases Nat.lt_or_ge i l.length with h | h
  · exact h
  · simp [List.getElem?_eq_none h] at ho

theorem plan_sound (hQ : ∀ (a a' : Act) (w : World) c, Q (.panic c) a w → Q (.panic c) a' w) (hs : Region.noSelect l.toArray = true) : ∀ (p : Plan) (listed : Array Bool) (a : Act) (w : World), C w →
    p.ok l.toArray listed = true → wpPlan P l C Q p a w → wpAnyH P .any l.toArray Q C p.len listed a w := by
  intro p
  induction p with
  | last seg =>
    intro listed a w hC hm h
    simp only [Plan.ok, Bool.and_eq_true] at hm
    have := plan_pure (P := P) (C := C) (Q := Q) (n := 0) hQ hs hC (K := fun a' => Q .normal a' w) seg listed a (fun a h1 => wpAnyH_done (List.isEmpty_iff.1 hm.2) h1 _) hm.1 h
    simpa [Plan.len] using this
  | one seg i p ih =>
    intro listed a w hC hm h
    simp only [Plan.ok, Bool.and_eq_true, beq_iff_eq] at hm
    obtain ⟨h1, h2, h3⟩ := hm
    refine plan_pure (P := P) (C := C) (Q := Q) (n := p.len + 1) hQ hs hC (K := fun a' => wpList P l.toArray (Exit.then (fun a'' w'' => C w'' ∧ wpPlan P l C Q p a'' w'') Q) (pick l [i]) a' w) seg listed a ?_ h1 h
    intro a' h'
    have hil : i < l.length := ready_lt (by rw [h2]; simp)
    refine wpAnyH_all h2 (by simp) fun j hj => ?_
    obtain rfl : j = i := by simpa using hj
    exact wpOp_mono (fun a'' w'' h4 => ⟨h4.1, ih _ a'' w'' h4.1 h3 h4.2⟩) (mix_op hil h')
  | two seg i p j q ihp ihq =>
    intro listed a w hC hm h
    simp only [Plan.ok, Bool.and_eq_true, beq_iff_eq] at hm
    obtain ⟨h1, h2, h3, h4, h5⟩ := hm
    refine plan_pure (P := P) (C := C) (Q := Q) (n := p.len + 1) hQ hs hC (K := fun a' => wpList P l.toArray (Exit.then (fun a'' w'' => C w'' ∧ wpPlan P l C Q p a'' w'') Q) (pick l [i]) a' w ∧ wpList P l.toArray (Exit.then (fun a'' w'' => C w'' ∧ wpPlan P l C Q q a'' w'') Q) (pick l [j]) a' w) seg listed a ?_ h1 h
    intro a' h'
    have hil : i < l.length := ready_lt (by rw [h2]; simp)
    have hjl : j < l.length := ready_lt (by rw [h2]; simp)
    refine wpAnyH_all h2 (by simp) fun k hk => ?_
    rcases (by simpa using hk : k = i ∨ k = j) with rfl | rfl
    · exact wpOp_mono (fun a'' w'' h6 => ⟨h6.1, ihp _ a'' w'' h6.1 h4 h6.2⟩) (mix_op hil h'.1)
    · exact wpOp_mono (fun a'' w'' h6 => ⟨h6.1, by rw [h3]; exact ihq _ a'' w'' h6.1 h5 h6.2⟩) (mix_op hjl h'.2)

/-- **A region that draws its order, along a plan.** No operation may panic. -/
theorem wp_region_plan {id : Nat} {a : Act} {w : World} {ls : List Oper} (C : World → Prop) (p : Plan) (hl : ls = l) (hm : P.follows .mixedOrders = true) (hs : Region.noSelect ls.toArray = true)
    (hB : (p.ok ls.toArray (Array.replicate ls.length false) && p.len == ls.length) = true)
    (hC : C { w with drawn := w.drawn + 1 }) (h : wpPlan P l C (NoPanic Q) p a { w with drawn := w.drawn + 1 }) : (Code.region id ls.toArray true).wp P Q a w := by
  subst hl
  rw [Bool.and_eq_true, beq_iff_eq] at hB
  refine wp_region_noPanic (wp_region_held (S := C) hm ?_)
  have := plan_sound (Q := NoPanic Q) (fun _ _ _ _ h => h.elim) hs p (Array.replicate ls.length false) a _ hC hB.1 h
  rw [hB.2] at this
  simpa using this

theorem wpPlan_last {seg : List Nat} {a : Act} {w : World} (h : wpQuiet P l.toArray C (fun a' => Q .normal a' w) (pick l seg) a) : wpPlan P l C Q (.last seg) a w := h
theorem wpPlan_one {seg : List Nat} {i : Nat} {p : Plan} {a : Act} {w : World}
    (h : ∀ K : Act → World → Prop, (∀ a w, wpPlan P l C Q p a w → K a w) → wpQuiet P l.toArray C (fun a' => wpList P l.toArray (Exit.then (fun a'' w'' => C w'' ∧ K a'' w'') Q) (pick l [i]) a' w) (pick l seg) a) : wpPlan P l C Q (.one seg i p) a w :=
  h _ fun _ _ h => h
theorem wpPlan_two {seg : List Nat} {i : Nat} {p : Plan} {j : Nat} {q : Plan} {a : Act} {w : World}
    (h : ∀ K K' : Act → World → Prop, (∀ a w, wpPlan P l C Q p a w → K a w) → (∀ a w, wpPlan P l C Q q a w → K' a w) → wpQuiet P l.toArray C (fun a' => wpList P l.toArray (Exit.then (fun a'' w'' => C w'' ∧ K a'' w'') Q) (pick l [i]) a' w ∧ wpList P l.toArray (Exit.then (fun a'' w'' => C w'' ∧ K' a'' w'') Q) (pick l [j]) a' w) (pick l seg) a) : wpPlan P l C Q (.two seg i p j q) a w :=
  h _ _ (fun _ _ h => h) (fun _ _ h => h)
end
end Go.Proofs.Ytiaaoajnecppnaa
