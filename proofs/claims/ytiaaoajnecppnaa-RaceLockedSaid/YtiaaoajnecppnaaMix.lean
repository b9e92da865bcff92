/-
  A region that draws its order, of operations that only read (in every world of a class they yield one value) and of others that come up one behind the other: walked in one order, the reading ones ahead as far as they can.
-/
import Derived.OrdersHeld
import Derived.Deep.RegionHeld3
import Derived.Deep.QuietTactic
import Derived.BigQuiet
import Derived.Tactics2
import Derived.WalkKit
namespace Go.Proofs.Ytiaaoajnecppnaa
open Go.RowKit

/-- Operations that never enter a function. -/
def plainOp : Op → Bool
  | .move _ | .assign _ | .pick .. | .load .. | .binOp .. | .unOp .. | .convert .. | .slice .. | .fieldAddr .. | .field .. | .indexAddr .. | .index .. | .extract .. | .makeInterface .. | .makeFunc .. | .nilCheck _ | .lookup .. | .build .. => true
  | .call { callee := .builtin b, .. } => match b with | .len | .cap | .min | .max => true | _ => false
  | _ => false

/-- A run that can end in a value alone. -/
def OnlyValue (s : Sem Next) : Prop := ∀ (P : Program) (w w' : World) (n : Next), s.run P w = .ok n w' → ∃ v, n = .value v

theorem onlyValue_pure (v : Value) : OnlyValue (pure (.value v)) := fun P w w' n h => by
  rw [Sem.run_pure] at h
  simp at h
  exact ⟨v, h.1.symm⟩
theorem onlyValue_bind {α : Type} (s : Sem α) (f : α → Sem Next) (hf : ∀ a, OnlyValue (f a)) : OnlyValue (s >>= f) := fun P w w' n h => by
  rw [Sem.run_bind] at h
  cases hs : s.run P w with
  | ok a w1 =>
    rw [hs] at h
    exact hf a P w1 w' n h
  | halt x w1 => rw [hs] at h; simp [Result.andThen] at h
theorem onlyValue_panic : OnlyValue (runtimePanic .nilDeref) := fun P w w' n h => by
  simp [runtimePanic, goPanic, program, Sem.run] at h

theorem plain_value {ρ : Operand → Value} {o : Oper} (hp : plainOp o.op = true) : OnlyValue (execOp ρ o) := by
  unfold execOp
  cases ho : o.op
  all_goals rw [ho] at hp
  all_goals try (simp [plainOp] at hp; done)
  all_goals dsimp only
  case move x => exact onlyValue_pure _
  case assign x => exact onlyValue_pure _
  case nilCheck x =>
    split
    all_goals first | exact onlyValue_panic | exact onlyValue_pure _ | skip
    split
    all_goals first | exact onlyValue_panic | exact onlyValue_pure _ | skip
    refine onlyValue_bind _ _ fun _ => onlyValue_bind _ _ fun _ => ?_
    split
    · exact onlyValue_bind _ _ fun _ => onlyValue_pure _
    · exact onlyValue_pure _
  case call c =>
    obtain ⟨callee, args, argTypes⟩ := c
    cases callee with
    | builtin b =>
      change OnlyValue (Go.builtin b argTypes o.type _ _)
      cases b
      all_goals try (simp [plainOp] at hp; done)
      all_goals exact onlyValue_bind _ _ fun _ => onlyValue_pure _
    | _ => simp [plainOp] at hp
  all_goals exact onlyValue_bind _ _ fun _ => onlyValue_pure _


/-! ### The order -/
/-- The operations come up: i and whether it may change the world. -/
def mixOk (ops : Array Oper) : List (Nat × Bool) → Array Bool → Bool
  | [], listed => (Region.ready .any ops listed).isEmpty
  | (i, true) :: r, listed => (Region.ready .any ops listed == [i]) && mixOk ops r (listed.setIfInBounds i true)
  | (i, false) :: r, listed => ((ops[i]?).map fun o => plainOp o.op).getD false && ((Region.ready .any ops listed).contains i && (Region.free .any ops listed i && mixOk ops r (listed.setIfInBounds i true)))

def pick (l : List Oper) : List Nat → List Oper
  | [] => []
  | i :: is => l.getD i default :: pick l is

/-- Stretches of reading operations, each with the one behind it that may change the world. -/
def wpMix (P : Program) (l : List Oper) (C : World → Prop) (Q : Exit → Act → World → Prop) : List (List Nat × Nat) → List Nat → Act → World → Prop
  | [], last, a, w => wpQuiet P l.toArray C (fun a' => Q .normal a' w) (pick l last) a
  | (seg, i) :: r, last, a, w => wpQuiet P l.toArray C (fun a' => wpList P l.toArray (Exit.then (fun a'' w'' => C w'' ∧ wpMix P l C Q r last a'' w'') Q) (pick l [i]) a' w) (pick l seg) a

def order : List (List Nat × Nat) → List Nat → List (Nat × Bool)
  | [], last => last.map fun i => (i, false)
  | (seg, i) :: r, last => seg.map (fun i => (i, false)) ++ (i, true) :: order r last

section
variable {P : Program} {l : List Oper} {C : World → Prop} {Q : Exit → Act → World → Prop}

theorem wp_then {o : Oper} {a : Act} {w : World} {K : Act → World → Prop} (h : o.wp P a w (fun a w => Exit.then K Q .normal a w) (Exit.then K Q)) : o.wp P a w K Q := by
  unfold Oper.wp at *
  generalize (execOp a.eval o).run P w = r at *
  cases r with
  | ok n w' =>
    cases n
    case value v => exact h
    case skip => exact h
    case defer d => exact h
    case enter f args =>
      refine Calls.mono h fun e w'' he => ?_
      cases e with
      | returned u => exact he
      | panicked c => exact he
      | outgrown => exact he
    case row row args => exact Rows.mono h fun u w'' he => he
    all_goals exact h
  | halt x w' =>
    cases x
    case panic u => exact h
    all_goals exact h

theorem mix_op {i : Nat} {a : Act} {w : World} {K : Act → World → Prop} (hi : i < l.length) (h : wpList P l.toArray (Exit.then K Q) (pick l [i]) a w) : wpOp P l.toArray Q i K a w := by
  have e : pick l [i] = [l[i]] := by simp [pick, hi]
  rw [e] at h
  unfold wpOp
  rw [show l.toArray[i]? = some l[i] from by simp [hi]]
  simp only [wpList] at h
  dsimp only
  split at h
  · next hw =>
    rw [if_pos hw]
    rcases h with h | ⟨h1, h2⟩
    · exact .inl (wp_then h)
    · exact .inr ⟨h1, h2⟩
  · next hw =>
    rw [if_neg hw]
    exact h

theorem mix_pure (hQ : ∀ (a a' : Act) (w : World) c, Q (.panic c) a w → Q (.panic c) a' w) (hs : Region.noSelect l.toArray = true) {w : World} (hC : C w) {K : Act → Prop} {rest : List (Nat × Bool)}
    (hK : ∀ a listed, mixOk l.toArray rest listed = true → K a → wpAnyH P .any l.toArray Q C rest.length listed a w) :
    ∀ (seg : List Nat) (listed : Array Bool) (a : Act), mixOk l.toArray (seg.map (fun i => (i, false)) ++ rest) listed = true → wpQuiet P l.toArray C K (pick l seg) a →
      wpAnyH P .any l.toArray Q C (seg.map (fun i => (i, false)) ++ rest).length listed a w := by
  intro seg
  induction seg with
  | nil => intro listed a hm h; exact hK a listed hm h
  | cons i seg ih =>
    intro listed a hm h
    simp only [List.map_cons, List.cons_append, mixOk, Bool.and_eq_true] at hm
    obtain ⟨h1, h2, h3, h4⟩ := hm
    have hil : i < l.length := by
      rcases Nat.lt_or_ge i l.length with h | h
      · exact h
      · simp [List.getElem?_eq_none h] at h1
    have hi : l.toArray[i]? = some l[i] := by simp [hil]
    rw [hi] at h1
    have hp : plainOp l[i].op = true := by simpa using h1
    have e : pick l (i :: seg) = l[i] :: pick l seg := by simp [pick, hil]
    rw [e] at h
    unfold wpQuiet at h
    have step : ∃ v, YieldsIf P l.toArray C l[i] v a ∧ wpQuiet P l.toArray C K (pick l seg) (a.put l[i].dst v) := by
      split at h
      · next hw =>
        obtain ⟨v, hv, hn⟩ := h
        refine ⟨v, .inl ⟨hw, fun w' hw' => ?_⟩, hn⟩
        have hq := hv w' hw'
        unfold Oper.quietAt at hq
        cases hr : (execOp a.eval l[i]).run P w' with
        | ok n w1 =>
          rw [hr] at hq
          obtain ⟨u, rfl⟩ := plain_value hp P w' w1 n hr
          obtain ⟨rfl, rfl⟩ := hq
          rfl
        | halt x w1 => rw [hr] at hq; exact hq.elim
      · next hw => exact ⟨undef, .inr ⟨by simpa using hw, rfl⟩, h⟩
    obtain ⟨v, hy, hn⟩ := step
    exact wpAnyH_take hi hs h3 h2 (fun c a' w' h => hQ _ _ _ _ h) hy hC (ih _ _ h4 hn)

theorem mix_sound (hQ : ∀ (a a' : Act) (w : World) c, Q (.panic c) a w → Q (.panic c) a' w) (hs : Region.noSelect l.toArray = true) : ∀ (segs : List (List Nat × Nat)) (last : List Nat) (listed : Array Bool) (a : Act) (w : World), C w →
    mixOk l.toArray (order segs last) listed = true → wpMix P l C Q segs last a w → wpAnyH P .any l.toArray Q C (order segs last).length listed a w := by
  intro segs
  induction segs with
  | nil =>
    intro last listed a w hC hm h
    have := mix_pure (P := P) (C := C) (Q := Q) (rest := []) hQ hs hC (K := fun a' => Q .normal a' w) (fun a listed h1 h2 => wpAnyH_done (by simpa [mixOk] using h1) h2 _) last listed a (by simpa [order] using hm) h
    simpa [order] using this
  | cons x segs ih =>
    obtain ⟨seg, i⟩ := x
    intro last listed a w hC hm h
    refine mix_pure (P := P) (C := C) (Q := Q) (rest := (i, true) :: order segs last) hQ hs hC (K := fun a' => wpList P l.toArray (Exit.then (fun a'' w'' => C w'' ∧ wpMix P l C Q segs last a'' w'') Q) (pick l [i]) a' w) ?_ seg listed a hm h
    intro a' listed' hm' h'
    simp only [mixOk, Bool.and_eq_true, beq_iff_eq] at hm'
    obtain ⟨h1, h2⟩ := hm'
    have hil : i < l.length := by
      have : i ∈ Region.ready .any l.toArray listed' := by rw [h1]; simp
      obtain ⟨-, o, ho, -⟩ := mem_ready.1 this
      rcases Nat.lt_or_ge i l.length with h | h
      · exact h
      · simp [List.getElem?_eq_none h] at ho
    refine wpAnyH_all h1 (by simp) fun j hj => ?_
    obtain rfl : j = i := by simpa using hj
    exact wpOp_mono (fun a'' w'' h3 => ⟨h3.1, ih last _ a'' w'' h3.1 h2 h3.2⟩) (mix_op hil h')

theorem order_length : ∀ (segs : List (List Nat × Nat)) (last : List Nat), (order segs last).length = (segs.map fun x => x.1.length + 1).sum + last.length
  | [], last => by simp [order]
  | (seg, i) :: r, last => by simp [order, order_length r last]; omega

/-- **A region that draws its order**: 'segs': which operations come up, in which order: stretches of reading ones, behind each the one that may change the world; C: what the reading ones hang on, and the others keep. No operation may panic. -/
theorem wp_region_mix {id : Nat} {a : Act} {w : World} {ls : List Oper} (C : World → Prop) (segs : List (List Nat × Nat)) (last : List Nat) (hl : ls = l) (hm : P.follows .mixedOrders = true) (hs : Region.noSelect ls.toArray = true)
    (hB : (mixOk ls.toArray (order segs last) (Array.replicate ls.length false) && (order segs last).length == ls.length) = true)
    (hC : C { w with drawn := w.drawn + 1 }) (h : wpMix P l C (NoPanic Q) segs last a { w with drawn := w.drawn + 1 }) : (Code.region id ls.toArray true).wp P Q a w := by
  subst hl
  rw [Bool.and_eq_true, beq_iff_eq] at hB
  refine wp_region_noPanic (wp_region_held (S := C) hm ?_)
  have := mix_sound (Q := NoPanic Q) (fun _ _ _ _ h => h.elim) hs segs last (Array.replicate ls.length false) a _ hC hB.1 h
  rw [hB.2] at this
  simpa using this
theorem wpMix_cons {seg : List Nat} {i : Nat} {r : List (List Nat × Nat)} {last : List Nat} {a : Act} {w : World}
    (h : ∀ K : Act → World → Prop, (∀ a w, wpMix P l C Q r last a w → K a w) → wpQuiet P l.toArray C (fun a' => wpList P l.toArray (Exit.then (fun a'' w'' => C w'' ∧ K a'' w'') Q) (pick l [i]) a' w) (pick l seg) a) : wpMix P l C Q ((seg, i) :: r) last a w :=
  h _ fun _ _ h => h
theorem wpMix_nil {last : List Nat} {a : Act} {w : World} (h : wpQuiet P l.toArray C (fun a' => Q .normal a' w) (pick l last) a) : wpMix P l C Q [] last a w := h
end


/-! ### Slices of slices, whatever the pointer -/
section
variable {P : Program} {ops : Array Oper} {C : World → Prop} {Q : Act → Prop} {a : Act} {o : Oper} {rest : List Oper}
theorem quiet_slice_l (x lo : Operand) (t e : TypeId) (i : TypeInfo) (size : Nat) (hg : o.guard = none) (ho : o.op = Op.slice t x (some lo) none none) (ht : P.underlying t = some (.slice e)) (hi : P.info? e = some i) (hs : i.size = size)
    (p q : Option Addr) (n cap l : Nat) (k : IntKind) (hx : a.eval x = .slice p n cap) (hl : a.eval lo = .int k l) (h1 : l ≤ n) (hq : q = if cap = l then p else p.map (·.add (l * size)))
    (h : wpQuiet P ops C Q rest (a.put o.dst (.slice q (n - l) (cap - l)))) : wpQuiet P ops C Q (o :: rest) a := by
  refine BigFrame.wpQuiet_want (by simp [Region.wanted, hg]) fun K hK => ⟨.slice q (n - l) (cap - l), fun w _ => ?_, hK _ h⟩
  subst hs
  have hm : ¬ ((n : Int) < (l : Int)) := by omega
  unfold Oper.quietAt execOp
  simp only [ho]
  have hr : (Instr.sliceAt t (a.eval x) (some (a.eval lo)) none none).run P w = .ok (.slice q (n - l) (cap - l)) w := by
    rw [hx, hl, hq]
    simp [Instr.sliceAt, run_underlying ht, Instr.slice, Instr.sliceBounds, Instr.sliceBound, asIntOf, h1, sizeOf, typeInfo, hi]
  simp only [Option.map_some, Option.map_none, Sem.run_bind, hr, Result.andThen_ok, Sem.run_pure]
  exact ⟨rfl, rfl⟩
theorem quiet_slice_lh (x lo hi' : Operand) (t e : TypeId) (i : TypeInfo) (size : Nat) (hg : o.guard = none) (ho : o.op = Op.slice t x (some lo) (some hi') none) (ht : P.underlying t = some (.slice e)) (hi : P.info? e = some i) (hs : i.size = size)
    (p q : Option Addr) (n cap l m : Nat) (k k' : IntKind) (hx : a.eval x = .slice p n cap) (hl : a.eval lo = .int k l) (hh : a.eval hi' = .int k' m) (h1 : l ≤ m) (h2 : m ≤ cap) (hq : q = if cap = l then p else p.map (·.add (l * size)))
    (h : wpQuiet P ops C Q rest (a.put o.dst (.slice q (m - l) (cap - l)))) : wpQuiet P ops C Q (o :: rest) a := by
  refine BigFrame.wpQuiet_want (by simp [Region.wanted, hg]) fun K hK => ⟨.slice q (m - l) (cap - l), fun w _ => ?_, hK _ h⟩
  subst hs
  unfold Oper.quietAt execOp
  simp only [ho]
  have hr : (Instr.sliceAt t (a.eval x) (some (a.eval lo)) (some (a.eval hi')) none).run P w = .ok (.slice q (m - l) (cap - l)) w := by
    rw [hx, hl, hh, hq]
    simp [Instr.sliceAt, run_underlying ht, Instr.slice, Instr.sliceBounds, Instr.sliceBound, asIntOf, h1, h2, sizeOf, typeInfo, hi]
  simp only [Option.map_some, Option.map_none, Sem.run_bind, hr, Result.andThen_ok, Sem.run_pure]
  exact ⟨rfl, rfl⟩
end

end Go.Proofs.Ytiaaoajnecppnaa
