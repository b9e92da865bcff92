/-
  Ghost values: what is fresh; contracts out of contracts; results of two and three; the top.
-/
import Derived.Test.YtenlhfmchhljdaaDoorGy
import Derived.OwnWalk
namespace Go.Proofs.YtenlhfmchhljdaaDoor
open Go.RowKit

section
variable {P : Program} {Γ : Cx} {o : Oper} {σ : Nat → T} {n c : Nat} {objs : Objs} {Q : GPost}
theorem fresh_env {l : List T} (h : T.hass c l = false) : ∀ t, (envL l t).has c = false := by
  intro t
  unfold envL
  induction l generalizing t with
  | nil => rfl
  | cons x l ih =>
    simp only [T.hass, Bool.or_eq_false_iff] at h
    cases t with
    | zero => exact h.1
    | succ t => exact ih h.2 t
theorem fresh_upd {d : Option Tmp} {v : T} (hv : v.has c = false) (h : ∀ t, (σ t).has c = false) : ∀ t, (updT σ d v t).has c = false := by
  intro t
  cases d with
  | none => exact h t
  | some d =>
    simp only [updT]
    cases Nat.beq t d with
    | true => exact hv
    | false => exact h t
theorem freshO_nil : ∀ i ob, objL [] i = some ob → ob.has c = false := fun i ob h => by cases h
theorem freshO_cons {p : Nat × GObj} {L : List (Nat × GObj)} (hp : p.2.has c = false) (h : ∀ i ob, objL L i = some ob → ob.has c = false) : ∀ i ob, objL (p :: L) i = some ob → ob.has c = false := by
  intro i ob hl
  unfold objL at hl
  rw [List.lookup_cons] at hl
  split at hl
  · cases hl; exact hp
  · exact h i ob hl
theorem freshO_ovr {post : List (Nat × GObj)} (hp : ∀ i ob, objL post i = some ob → ob.has c = false) (h : ∀ i ob, objs i = some ob → ob.has c = false) : ∀ i ob, ovr objs post i = some ob → ob.has c = false := by
  intro i ob hl
  unfold ovr at hl
  cases h1 : post.lookup i with
  | none => rw [h1] at hl; exact h i ob hl
  | some x => rw [h1] at hl; cases hl; exact hp i ob h1

/-! ### Contracts -/
theorem FnD.flat {f : FuncId} {args : List T} {v : Value} (h1 : v.oneCell' = true) (h : ∀ (w : World) (g : Gh) (vs : List Value), (∀ b o x, g.S b o = some x → w.cell? ⟨b, o, none⟩ = some x) → Reps g args vs → Calls P f vs.toArray w fun e w' => e = .returned v ∧ Below w.heap.size w w') : FnD P f args (.d (.v v)) := by
  intro w g vs _ hi hr
  refine (h w g vs hi hr).mono ?_
  rintro e w' ⟨rfl, hb⟩
  refine ⟨v, g.S, rfl, SLe.refl _, fun _ _ _ => rfl, fun b o x hx => ?_, .d (.v h1), hb⟩
  rw [hb.cell (p := ⟨b, o, none⟩) (World.block_lt_of_cell? w ⟨b, o, none⟩ (hi b o x hx))]
  exact hi b o x hx
theorem FnD.flatT {f : FuncId} {args : List T} {v : Value} (h1 : v.oneCell' = true) (h : ∀ (w : World) (g : Gh) (vs : List Value), TabsIn w → (∀ b o x, g.S b o = some x → w.cell? ⟨b, o, none⟩ = some x) → Reps g args vs → Calls P f vs.toArray w fun e w' => e = .returned v ∧ Below w.heap.size w w') : FnD P f args (.d (.v v)) := by
  intro w g vs ht hi hr
  refine (h w g vs ht hi hr).mono ?_
  rintro e w' ⟨rfl, hb⟩
  refine ⟨v, g.S, rfl, SLe.refl _, fun _ _ _ => rfl, fun b o x hx => ?_, .d (.v h1), hb⟩
  rw [hb.cell (p := ⟨b, o, none⟩) (World.block_lt_of_cell? w ⟨b, o, none⟩ (hi b o x hx))]
  exact hi b o x hx
theorem FnD.top {f : FuncId} {args : List T} {v : Value} (h : FnD P f args (.d (.v v))) {w : World} {vs : List Value} (ht : TabsIn w) (hr : Reps ⟨allS w, fun _ => 0, fun _ => undef, fun _ => 0⟩ args vs) : Calls P f vs.toArray w fun e w' => e = .returned v ∧ Below w.heap.size w w' := by
  refine (h w _ vs ht (fun b o x hx => hx) hr).mono ?_
  rintro e w' ⟨u, S', rfl, -, -, -, h1, hb⟩
  exact ⟨by rw [inv_v h1], hb⟩
/-- What is known behind a call that has made cells of its own. -/
def behS (S : Sm) (w w' : World) : Sm := fun b o => if b < w.heap.size then S b o else w'.cell? ⟨b, o, none⟩
theorem behS_le {S : Sm} {w : World} (w' : World) (hi : ∀ b o x, S b o = some x → w.cell? ⟨b, o, none⟩ = some x) : SLe S (behS S w w') := fun b o x h => by
  unfold behS
  rw [if_pos (World.block_lt_of_cell? w ⟨b, o, none⟩ (hi b o x h))]
  exact h
theorem behS_imm {S : Sm} {w w' : World} (hi : ∀ b o x, S b o = some x → w.cell? ⟨b, o, none⟩ = some x) (hb : Below w.heap.size w w') : ∀ b o x, behS S w w' b o = some x → w'.cell? ⟨b, o, none⟩ = some x := fun b o x h => by
  unfold behS at h
  split at h
  · next hlt => rw [hb.cell (p := ⟨b, o, none⟩) hlt]; exact hi b o x h
  · exact h
theorem behS_old {S : Sm} {w w' : World} : ∀ b o, b < w.heap.size → behS S w w' b o = S b o := fun b o h => by unfold behS; rw [if_pos h]
/-- A row of the call's own, as data. -/
theorem rep_own {S : Sm} {w w' : World} {e k n cap : Nat} {p : Option Addr} {l : List D} {xs : List Value} (h : w'.ownsRow w.heap.size e k (.slice p n cap) n xs) (hn : n = l.length) (hl : ∀ S, RepLv S k l xs) : RepD (behS S w w') (.sl k l) (.slice p n cap) := by
  subst hn
  obtain ⟨p', c', e1, h1, h2⟩ := own_slice h
  simp only [Value.slice.injEq, true_and] at e1
  obtain ⟨rfl, rfl⟩ := e1
  refine .sl (hl _) ?_ h1 h2 fun hp => ?_
  · rcases h.2 with ⟨e1, e2⟩ | ⟨g, cap', cur, e1, hb, -⟩
    · have : xs = [] := List.eq_nil_of_length_eq_zero (by rw [h.1, e2]; simp)
      subst this
      exact RowS.nil _ _
    · simp only [Value.slice.injEq, true_and] at e1
      obtain ⟨rfl, rfl⟩ := e1
      refine ⟨g, 0, fun _ => rfl, fun i hi => ?_⟩
      unfold behS
      rw [if_neg (by omega), Nat.zero_add]
      exact h.cellAt i (by rw [← h.1]; exact hi)
  · rcases h.2 with ⟨e1, -⟩ | ⟨g, cap', cur, e1, -⟩
    · simp only [Value.slice.injEq] at e1; exact e1.2.2
    · simp only [Value.slice.injEq] at e1; rw [e1.1] at hp; cases hp
/-- A slice that came in. -/
theorem rep_sl {w : World} {k n cap : Nat} {p : Option Addr} {l : List D} {xs : List Value} (h : Sl w k p n cap xs) (hn : n = l.length) (hl : ∀ S, RepLv S k l xs) : RepD (allS w) (.sl k l) (.slice p n cap) := by
  subst hn
  refine .sl (hl _) ?_ h.le h.big h.isNil
  obtain ⟨b, off, h1, h2⟩ := h.row
  exact ⟨b, off, fun hx => (h1 hx).1, fun i hi => h2 i hi⟩
theorem sl_rep {g : Gh} {w : World} {k : Nat} {l : List D} {v : Value} (hi : ∀ b o x, g.S b o = some x → w.cell? ⟨b, o, none⟩ = some x) (h : RepT g (.d (.sl k l)) v) : ∃ p cap xs, v = .slice p l.length cap ∧ Sl w k p l.length cap xs ∧ RepLv g.S k l xs := by
  cases h with
  | d h =>
    cases h with
    | @sl _ _ p cap xs h hr hc hb hn =>
      refine ⟨p, cap, xs, rfl, ⟨?_, h.len, hc, hb, hn⟩, h⟩
      obtain ⟨b, off, h1, h2⟩ := hr
      refine ⟨b, off, fun hx => ⟨h1 hx, ?_⟩, fun i hi' => ?_⟩
      · have := h2 0 hx
        rw [List.getElem?_eq_getElem hx] at this
        exact World.block_lt_of_cell? w ⟨b, off + 0, none⟩ (hi _ _ _ this)
      · have := h2 i hi'
        rw [List.getElem?_eq_getElem hi'] at this ⊢
        exact hi _ _ _ this
/-- A slice that a call has made. -/
theorem rep_new {S : Sm} {w w' : World} {k n cap : Nat} {p : Option Addr} {l : List D} {xs : List Value} (h : Sl w' k p n cap xs) (hp : ∀ a, p = some a → w.heap.size ≤ a.block) (hn : n = l.length) (hl : ∀ S, RepLv S k l xs) : RepD (behS S w w') (.sl k l) (.slice p n cap) := by
  subst hn
  refine .sl (hl _) ?_ h.le h.big h.isNil
  obtain ⟨b, off, h1, h2⟩ := h.row
  refine ⟨b, off, fun hx => (h1 hx).1, fun i hi => ?_⟩
  have hb := hp _ (h1 (by omega)).1
  unfold behS
  rw [if_neg (by simpa using hb)]
  exact h2 i hi
end
end Go.Proofs.YtenlhfmchhljdaaDoor
