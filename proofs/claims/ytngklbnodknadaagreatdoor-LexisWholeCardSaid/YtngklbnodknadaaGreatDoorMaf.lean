/-
  Gp, Gq, in one.
-/
import Derived.Test.YtngklbnodknadaaGreatDoorMae
import Derived.Lib.Strings
import Derived.Lib.PathFns
section
namespace Go.Proofs.YtngklbnodknadaaGreatDoor
open Go.RowKit

/-! ### Other names -/
mutual
def T.ren (ρ : Nat → Nat) : T → T
  | .d x => .d x
  | .pi ds => .pi ds
  | .ref i o => .ref (ρ i) o
  | .own k l i => .own k l (ρ i)
  | .mrow i n => .mrow (ρ i) n
  | .mp i => .mp (ρ i)
  | .stk i v p => .stk (ρ i) v p
  | .fn f l => .fn f (T.rens ρ l)
  | .bf f l => .bf f (T.rens ρ l)
  | .tup l => .tup (T.rens ρ l)
  | .ag l => .ag (T.rens ρ l)
  | .pr p => .pr p
  | .und => .und
def T.rens (ρ : Nat → Nat) : List T → List T
  | [] => []
  | t :: l => t.ren ρ :: T.rens ρ l
end
def GObj.isVac : GObj → Bool
  | .vac => true
  | .gone => true
  | _ => false
def GObj.ren (ρ : Nat → Nat) : GObj → GObj
  | .cells e ts => .cells e (T.rens ρ ts)
  | .barr e l ts => .barr e l (T.rens ρ ts)
  | .frow e k v l ts => .frow e k v l (T.rens ρ ts)
  | .rdr e ts => .rdr e (T.rens ρ ts)
  | .seen c => .seen (ρ c)
  | ob => ob
theorem rens_len (ρ : Nat → Nat) : ∀ l : List T, (T.rens ρ l).length = l.length
  | [] => rfl
  | t :: l => by rw [T.rens, List.length_cons, rens_len ρ l, List.length_cons]
/-- Those names agree. -/
structure Agree (ρ : Nat → Nat) (g gc : Gh) (A : Nat → Prop) : Prop where
  S : gc.S = g.S
  blk : ∀ i, A i → gc.blk i = g.blk (ρ i)
  row : ∀ i, A i → gc.row i = g.row (ρ i)
  len : ∀ i, A i → gc.len i = g.len (ρ i)
mutual
theorem RepT.ren {ρ : Nat → Nat} {g gc : Gh} {A : Nat → Prop} (hg : Agree ρ g gc A) : ∀ (t : T) (v : Value), (∀ id, t.has id = true → A id) → (RepT gc t v ↔ RepT g (t.ren ρ) v)
  | .d x, v, _ => by
    rw [T.ren]
    exact ⟨fun h => by cases h with | d h => rw [hg.S] at h; exact .d h, fun h => by cases h with | d h => rw [← hg.S] at h; exact .d h⟩
  | .pi ds, v, _ => by
    rw [T.ren]
    exact ⟨fun h => by cases h with | pi h hr => rw [hg.S] at h hr; exact .pi h hr, fun h => by cases h with | pi h hr => rw [← hg.S] at h hr; exact .pi h hr⟩
  | .ref i o, v, ha => by
    rw [T.ren]
    have hA := ha i (by simp [T.has])
    have hb := hg.blk i hA
    have hl := hg.len i hA
    constructor
    · intro h; cases h with | ref h => rw [hb]; exact .ref (hl ▸ h)
    · intro h; cases h with | ref h => rw [← hb]; exact .ref (hl ▸ h)
  | .own k l i, v, ha => by
    rw [T.ren]
    have hA := ha i (by simp [T.has])
    have hb := hg.row i hA
    have hl := hg.len i hA
    constructor
    · intro h; cases h with | own h1 h2 h3 => rw [hg.S] at h1; rw [hl] at h2; rw [hl, hb] at h3; exact .own h1 h2 h3
    · intro h; cases h with | own h1 h2 h3 => rw [← hg.S] at h1; rw [← hl] at h2; rw [← hl, ← hb] at h3; exact .own h1 h2 h3
  | .mrow i n, v, ha => by
    rw [T.ren]
    have hA := ha i (by simp [T.has])
    have hb := hg.blk i hA
    have hl := hg.len i hA
    constructor
    · intro h; cases h with | mrow h hn hc => rw [hb]; exact .mrow (hl ▸ h) hn hc
    · intro h; cases h with | mrow h hn hc => rw [← hb]; exact .mrow (hl ▸ h) hn hc
  | .mp i, v, ha => by
    rw [T.ren]
    have hA := ha i (by simp [T.has])
    have hb := hg.blk i hA
    have hl := hg.len i hA
    constructor
    · intro h; cases h with | mp h => rw [hb]; exact .mp (hl ▸ h)
    · intro h; cases h with | mp h => rw [← hb]; exact .mp (hl ▸ h)
  | .stk i n p, v, ha => by
    rw [T.ren]
    have hA := ha i (by simp [T.has])
    have hb := hg.row i hA
    have hl := hg.len i hA
    constructor
    · intro h; cases h with | stk h1 h2 h3 => rw [hl] at h2; rw [hl, hb] at h3; exact .stk h1 h2 h3
    · intro h; cases h with | stk h1 h2 h3 => rw [← hl] at h2; rw [← hl, ← hb] at h3; exact .stk h1 h2 h3
  | .fn f l, v, ha => by
    rw [T.ren]
    have hr := fun vs => Reps.ren hg l vs fun id hi => ha id (by simpa [T.has] using hi)
    constructor
    · intro h; cases h with | fn h => exact .fn ((hr _).1 h)
    · intro h; cases h with | fn h => exact .fn ((hr _).2 h)
  | .bf f l, v, ha => by
    rw [T.ren]
    have hr := fun vs => Reps.ren hg l vs fun id hi => ha id (by simpa [T.has] using hi)
    constructor
    · intro h; cases h with | bf h => exact .bf ((hr _).1 h)
    · intro h; cases h with | bf h => exact .bf ((hr _).2 h)
  | .tup l, v, ha => by
    rw [T.ren]
    have hr := fun vs => Reps.ren hg l vs fun id hi => ha id (by simpa [T.has] using hi)
    constructor
    · intro h; cases h with | tup h => exact .tup ((hr _).1 h)
    · intro h; cases h with | tup h => exact .tup ((hr _).2 h)
  | .ag l, v, ha => by
    rw [T.ren]
    have hr := fun vs => Reps.ren hg l vs fun id hi => ha id (by simpa [T.has] using hi)
    constructor
    · intro h; cases h with | ag h h1 => exact .ag ((hr _).1 h) h1
    · intro h; cases h with | ag h h1 => exact .ag ((hr _).2 h) h1
  | .pr p, v, _ => by rw [T.ren]; exact ⟨fun h => by cases h with | pr h1 h2 => exact .pr h1 h2, fun h => by cases h with | pr h1 h2 => exact .pr h1 h2⟩
  | .und, v, _ => by rw [T.ren]; exact ⟨fun _ => .und, fun _ => .und⟩
theorem Reps.ren {ρ : Nat → Nat} {g gc : Gh} {A : Nat → Prop} (hg : Agree ρ g gc A) : ∀ (l : List T) (vs : List Value), (∀ id, T.hass id l = true → A id) → (Reps gc l vs ↔ Reps g (T.rens ρ l) vs)
  | [], vs, _ => by rw [T.rens]; exact ⟨fun h => by cases h; exact .nil, fun h => by cases h; exact .nil⟩
  | t :: l, vs, ha => by
    rw [T.rens]
    have h1 := fun v => RepT.ren hg t v fun id hi => ha id (by simp [T.hass, hi])
    have h2 := fun vs => Reps.ren hg l vs fun id hi => ha id (by simp [T.hass, hi])
    constructor
    · intro h; cases h with | cons a b => exact .cons ((h1 _).1 a) ((h2 _).1 b)
    · intro h; cases h with | cons a b => exact .cons ((h1 _).2 a) ((h2 _).2 b)
end
section
variable {P : Program} {Γ : Cx} {o : Oper} {σ : Nat → T} {n : Nat} {objs : Objs} {Q : GPost} {ρ : Nat → Nat}
theorem ObjAt.into {g gc : Gh} {A : Nat → Prop} (hg : Agree ρ g gc A) {Γ' : Cx} {w : World} {i : Nat} {ob : GObj} (hi : A i) (ha : ∀ id, ob.has id = true → A id) (h : ObjAt Γ g w (ρ i) (ob.ren ρ)) (hM : ∀ b, ob.blk gc i b → Mine Γ' b) : ObjAt Γ' gc w i ob := by
  cases ob with
  | vac => show gc.len i = 0; rw [hg.len i hi]; exact h
  | cells e ts =>
    obtain ⟨xs, a0, a1, a2, a3, a4, a5⟩ := h
    refine ⟨xs, by rw [hg.len i hi]; exact a0, hM _ rfl, by rw [hg.blk i hi]; exact a2, (Reps.ren hg ts xs ha).2 a3, a4, fun o => by rw [hg.S, hg.blk i hi]; exact a5 o⟩
  | barr e l ts =>
    obtain ⟨xs, a0, a1, a2, a3, a4, a5⟩ := h
    refine ⟨xs, by rw [hg.len i hi]; exact a0, hM _ rfl, by rw [hg.blk i hi]; exact a2, (Reps.ren hg ts xs ha).2 a3, a4, fun o => by rw [hg.S, hg.blk i hi]; exact a5 o⟩
  | row e k l =>
    obtain ⟨xs, a0, a1, a2, a3⟩ := h
    refine ⟨xs, by rw [hg.len i hi]; exact a0, by rw [hg.row i hi]; exact a1, by rw [hg.S]; exact a2, fun b hb => ⟨hM b hb, fun o => ?_⟩⟩
    rw [hg.row i hi] at hb
    rw [hg.S]; exact (a3 b hb).2 o
  | stk e k ver l =>
    obtain ⟨xs, a0, a1, a2, a3⟩ := h
    refine ⟨xs, by rw [hg.len i hi]; exact a0, by rw [hg.row i hi]; exact a1, by rw [hg.S]; exact a2, fun b hb => ⟨hM b hb, fun o => ?_⟩⟩
    rw [hg.row i hi] at hb
    rw [hg.S]; exact (a3 b hb).2 o
  | gone => trivial
  | map d M =>
    obtain ⟨es, a0, a1, ⟨c, a2, a3⟩, a4, a5⟩ := h
    exact ⟨es, by rw [hg.len i hi]; exact a0, hM _ rfl, ⟨c, by rw [hg.blk i hi]; exact a2, a3⟩, by rw [hg.S]; exact a4, fun o => by rw [hg.S, hg.blk i hi]; exact a5 o⟩
  | grid eo e ver rows =>
    obtain ⟨vs, a0, a1, a2, a3, a4, a5, a6, a7⟩ := h
    exact ⟨vs, by rw [hg.len i hi]; exact a0, hM _ (.inl rfl), by rw [hg.blk i hi]; exact a2, by rw [hg.row i hi]; exact a3, by rw [hg.S]; exact a4, fun o => by rw [hg.S, hg.blk i hi]; exact a5 o, fun v hv b hb => ⟨hM b (.inr ⟨v, by rw [hg.row i hi, a3]; simpa [rowsOf] using hv, hb⟩), by rw [hg.blk i hi]; exact (a6 v hv b hb).2.1, fun o => by rw [hg.S]; exact (a6 v hv b hb).2.2 o⟩, a7⟩
  | rmap d e k M =>
    obtain ⟨es, vs, a0, a1, ⟨c, a2, a3⟩, a4, a5, a6, a7, a8⟩ := h
    exact ⟨es, vs, by rw [hg.len i hi]; exact a0, hM _ (.inl rfl), ⟨c, by rw [hg.blk i hi]; exact a2, a3⟩, by rw [hg.row i hi]; exact a4, by rw [hg.S]; exact a5, fun o => by rw [hg.S, hg.blk i hi]; exact a6 o, fun v hv b hb => ⟨hM b (.inr ⟨v, by rw [hg.row i hi, a4]; simpa [rowsOf] using hv, hb⟩), by rw [hg.blk i hi]; exact (a7 v hv b hb).2⟩, a8⟩
  | bld e tb l =>
    obtain ⟨p, v, a0, a1, a2, a3, a4, a5, a6, a9, a7, a8⟩ := h
    exact ⟨p, v, by rw [hg.len i hi]; exact a0, hM _ (.inl rfl), by rw [hg.blk i hi]; exact a2, by rw [hg.blk i hi]; exact a3, by rw [hg.row i hi]; exact a4, a5, by rw [hg.blk i hi]; exact a6, a9, fun o => by rw [hg.S, hg.blk i hi]; exact a7 o, fun b hb => ⟨hM b (.inr (by rw [hg.row i hi, a4]; exact hb)), fun o => by rw [hg.S]; exact (a8 b hb).2 o⟩⟩
  | frow e k ver l ts =>
    obtain ⟨xs, ys, n, a0, a1, a2, a3, a4, a5, a6⟩ := h
    refine ⟨xs, ys, n, by rw [hg.len i hi]; exact a0, by rw [hg.row i hi]; exact a1, by rw [hg.S]; exact a2, (Reps.ren hg ts ys ha).2 a3, a4, ?_, fun b hb => ⟨hM b hb, fun o => ?_⟩⟩
    · rcases a5 with ⟨h1, h2⟩ | ⟨h1, h2⟩
      · exact .inl ⟨(by cases ts with | nil => rfl | cons _ _ => (rw [T.rens] at h1; cases h1)), h2⟩
      · exact .inr ⟨by rw [rens_len] at h1; exact h1, h2⟩
    · rw [hg.row i hi] at hb
      rw [hg.S]; exact (a6 b hb).2 o
  | rdr e ts =>
    obtain ⟨xs, bb, a0, a1, a2, a3, a4, a6, a5⟩ := h
    refine ⟨xs, bb, by rw [hg.len i hi]; exact a0, hM _ rfl, by rw [hg.blk i hi]; exact a2, (Reps.ren hg ts xs ha).2 a3, a4, by rw [hg.len i hi]; exact a6, fun o => by rw [hg.S, hg.blk i hi]; exact a5 o⟩
  | seen c =>
    obtain ⟨a0, a1⟩ := h
    exact ⟨by rw [hg.len i hi]; exact a0, by rw [hg.len c (ha c (by simp [GObj.has]))]; exact a1⟩
theorem ObjAt.out {g gc : Gh} {A : Nat → Prop} (hg : Agree ρ g gc A) {Γ' : Cx} {w : World} {i : Nat} {ob : GObj} (hi : A i) (ha : ∀ id, ob.has id = true → A id) (h : ObjAt Γ' gc w i ob) (hM : ∀ b, Mine Γ' b → Mine Γ b) : ObjAt Γ g w (ρ i) (ob.ren ρ) := by
  cases ob with
  | vac => show g.len (ρ i) = 0; rw [← hg.len i hi]; exact h
  | cells e ts =>
    obtain ⟨xs, a0, a1, a2, a3, a4, a5⟩ := h
    refine ⟨xs, by rw [← hg.len i hi]; exact a0, hM _ (by rw [← hg.blk i hi]; exact a1), by rw [← hg.blk i hi]; exact a2, (Reps.ren hg ts xs ha).1 a3, a4, fun o => by rw [← hg.S, ← hg.blk i hi]; exact a5 o⟩
  | barr e l ts =>
    obtain ⟨xs, a0, a1, a2, a3, a4, a5⟩ := h
    refine ⟨xs, by rw [← hg.len i hi]; exact a0, hM _ (by rw [← hg.blk i hi]; exact a1), by rw [← hg.blk i hi]; exact a2, (Reps.ren hg ts xs ha).1 a3, a4, fun o => by rw [← hg.S, ← hg.blk i hi]; exact a5 o⟩
  | row e k l =>
    obtain ⟨xs, a0, a1, a2, a3⟩ := h
    refine ⟨xs, by rw [← hg.len i hi]; exact a0, by rw [← hg.row i hi]; exact a1, by rw [← hg.S]; exact a2, fun b hb => ?_⟩
    rw [← hg.row i hi] at hb
    exact ⟨hM b (a3 b hb).1, fun o => by rw [← hg.S]; exact (a3 b hb).2 o⟩
  | stk e k ver l =>
    obtain ⟨xs, a0, a1, a2, a3⟩ := h
    refine ⟨xs, by rw [← hg.len i hi]; exact a0, by rw [← hg.row i hi]; exact a1, by rw [← hg.S]; exact a2, fun b hb => ?_⟩
    rw [← hg.row i hi] at hb
    exact ⟨hM b (a3 b hb).1, fun o => by rw [← hg.S]; exact (a3 b hb).2 o⟩
  | gone => trivial
  | map d M =>
    obtain ⟨es, a0, a1, ⟨c, a2, a3⟩, a4, a5⟩ := h
    exact ⟨es, by rw [← hg.len i hi]; exact a0, hM _ (by rw [← hg.blk i hi]; exact a1), ⟨c, by rw [← hg.blk i hi]; exact a2, a3⟩, by rw [← hg.S]; exact a4, fun o => by rw [← hg.S, ← hg.blk i hi]; exact a5 o⟩
  | grid eo e ver rows =>
    obtain ⟨vs, a0, a1, a2, a3, a4, a5, a6, a7⟩ := h
    exact ⟨vs, by rw [← hg.len i hi]; exact a0, hM _ (by rw [← hg.blk i hi]; exact a1), by rw [← hg.blk i hi]; exact a2, by rw [← hg.row i hi]; exact a3, by rw [← hg.S]; exact a4, fun o => by rw [← hg.S, ← hg.blk i hi]; exact a5 o, fun v hv b hb => ⟨hM b (a6 v hv b hb).1, by rw [← hg.blk i hi]; exact (a6 v hv b hb).2.1, fun o => by rw [← hg.S]; exact (a6 v hv b hb).2.2 o⟩, a7⟩
  | rmap d e k M =>
    obtain ⟨es, vs, a0, a1, ⟨c, a2, a3⟩, a4, a5, a6, a7, a8⟩ := h
    exact ⟨es, vs, by rw [← hg.len i hi]; exact a0, hM _ (by rw [← hg.blk i hi]; exact a1), ⟨c, by rw [← hg.blk i hi]; exact a2, a3⟩, by rw [← hg.row i hi]; exact a4, by rw [← hg.S]; exact a5, fun o => by rw [← hg.S, ← hg.blk i hi]; exact a6 o, fun v hv b hb => ⟨hM b (a7 v hv b hb).1, by rw [← hg.blk i hi]; exact (a7 v hv b hb).2⟩, a8⟩
  | bld e tb l =>
    obtain ⟨p, v, a0, a1, a2, a3, a4, a5, a6, a9, a7, a8⟩ := h
    exact ⟨p, v, by rw [← hg.len i hi]; exact a0, hM _ (by rw [← hg.blk i hi]; exact a1), by rw [← hg.blk i hi]; exact a2, by rw [← hg.blk i hi]; exact a3, by rw [← hg.row i hi]; exact a4, a5, by rw [← hg.blk i hi]; exact a6, a9, fun o => by rw [← hg.S, ← hg.blk i hi]; exact a7 o, fun b hb => ⟨hM b (a8 b hb).1, fun o => by rw [← hg.S]; exact (a8 b hb).2 o⟩⟩
  | frow e k ver l ts =>
    obtain ⟨xs, ys, n, a0, a1, a2, a3, a4, a5, a6⟩ := h
    refine ⟨xs, ys, n, by rw [← hg.len i hi]; exact a0, by rw [← hg.row i hi]; exact a1, by rw [← hg.S]; exact a2, (Reps.ren hg ts ys ha).1 a3, a4, ?_, fun b hb => ?_⟩
    · rcases a5 with ⟨h1, h2⟩ | ⟨h1, h2⟩
      · exact .inl ⟨by rw [h1]; rfl, h2⟩
      · exact .inr ⟨by rw [rens_len]; exact h1, h2⟩
    · rw [← hg.row i hi] at hb
      exact ⟨hM b (a6 b hb).1, fun o => by rw [← hg.S]; exact (a6 b hb).2 o⟩
  | rdr e ts =>
    obtain ⟨xs, bb, a0, a1, a2, a3, a4, a6, a5⟩ := h
    refine ⟨xs, bb, by rw [← hg.len i hi]; exact a0, hM _ (by rw [← hg.blk i hi]; exact a1), by rw [← hg.blk i hi]; exact a2, (Reps.ren hg ts xs ha).1 a3, a4, by rw [← hg.len i hi]; exact a6, fun o => by rw [← hg.S, ← hg.blk i hi]; exact a5 o⟩
  | seen c =>
    obtain ⟨a0, a1⟩ := h
    exact ⟨by rw [← hg.len i hi]; exact a0, by rw [← hg.len c (ha c (by simp [GObj.has]))]; exact a1⟩
theorem blk_ren {g gc : Gh} {A : Nat → Prop} (hg : Agree ρ g gc A) {i : Nat} (hi : A i) (ob : GObj) : (ob.ren ρ).blk g (ρ i) = ob.blk gc i := by
  cases ob <;> (funext b; simp only [GObj.ren, GObj.blk, hg.blk i hi, hg.row i hi])

/-! ### A contract with objects -/
def lentX (g : Gh) (pre : List (Nat × GObj)) (b : Nat) : Prop := ∃ i ob, objL pre i = some ob ∧ ob.blk g i b
def cxO (w : World) (g : Gh) (pre : List (Nat × GObj)) (ht : TabsIn w) (hx : ∀ b, TabB w b → ¬ lentX g pre b) : Cx := ⟨fun b => ∃ i ob, objL pre i = some ob ∧ ob.blk g i b, w, g, fun i => ∃ ob, objL pre i = some ob, ht, hx, []⟩
/-- Lent the objects of pre f yields res, and leaves them, and new ones, as post tells. -/
def FnO (P : Program) (f : FuncId) (args : List T) (pre : List (Nat × GObj)) (res : T) (post : List (Nat × GObj)) : Prop :=
  ∀ (w : World) (g : Gh) (vs : List Value) (ht : TabsIn w) (hx : ∀ b, TabB w b → ¬ lentX g pre b), WI (cxO w g pre ht hx) g (objL pre) w → Reps g args vs → Calls P f vs.toArray w fun e w' => ∃ v g', e = .returned v ∧ RepT g' res v ∧ WI (cxO w g pre ht hx) g' (objL post) w'
def renP (ρ : Nat → Nat) (l : List (Nat × GObj)) : List (Nat × GObj) := l.map fun p => (ρ p.1, p.2.ren ρ)
theorem objL_mem : ∀ {l : List (Nat × GObj)} {i : Nat} {ob : GObj}, objL l i = some ob → (i, ob) ∈ l
  | [], _, _, h => by cases h
  | p :: l, i, ob, h => by
    unfold objL at h
    rw [List.lookup_cons] at h
    split at h
    · next e => cases h; have : i = p.1 := by simpa using e
                subst this; exact List.mem_cons_self
    · exact List.mem_cons_of_mem _ (objL_mem h)
theorem objL_of_mem : ∀ {l : List (Nat × GObj)} {i : Nat}, i ∈ l.map (·.1) → ∃ ob, objL l i = some ob
  | [], _, h => by cases h
  | p :: l, i, h => by
    unfold objL
    rw [List.lookup_cons]
    split
    · exact ⟨_, rfl⟩
    · next e =>
      rw [List.map_cons, List.mem_cons] at h
      rcases h with h | h
      · rw [h] at e; simp at e
      · exact objL_of_mem h
variable {I : List Nat}
theorem look_in (hinj : ∀ i ∈ I, ∀ j ∈ I, ρ i = ρ j → i = j) : ∀ {l : List (Nat × GObj)} {i : Nat}, (∀ p ∈ l, p.1 ∈ I) → i ∈ I → (renP ρ l).lookup (ρ i) = (objL l i).map (·.ren ρ)
  | [], _, _, _ => rfl
  | p :: l, i, hl, hi => by
    unfold objL renP
    rw [List.map_cons, List.lookup_cons, List.lookup_cons]
    by_cases e : i = p.1
    · rw [e]; simp
    · have e2 : ¬ ρ i = ρ p.1 := fun h => e (hinj i hi p.1 (hl p (by simp)) h)
      rw [show (ρ i == ρ p.1) = false from by simpa using e2, show (i == p.1) = false from by simpa using e]
      exact look_in hinj (fun q hq => hl q (by simp [hq])) hi
theorem look_out : ∀ {l : List (Nat × GObj)} {k : Nat}, (∀ p ∈ l, ρ p.1 ≠ k) → (renP ρ l).lookup k = none
  | [], _, _ => rfl
  | p :: l, k, hl => by
    unfold renP
    rw [List.map_cons, List.lookup_cons]
    rw [show (k == ρ p.1) = false from by simpa using fun e : k = ρ p.1 => hl p (by simp) e.symm]
    exact look_out fun q hq => hl q (by simp [hq])
def Gh.ren (g : Gh) (ρ : Nat → Nat) : Gh := ⟨g.S, fun i => g.blk (ρ i), fun i => g.row (ρ i), fun i => g.len (ρ i)⟩
theorem agree_ren (g : Gh) (A : Nat → Prop) : Agree ρ g (g.ren ρ) A := ⟨rfl, fun _ _ => rfl, fun _ _ => rfl, fun _ _ => rfl⟩
theorem WI.lentX {g : Gh} {w : World} {pre : List (Nat × GObj)} (hw : WI Γ g objs w) (hpre : ∀ i ob, objL pre i = some ob → objs (ρ i) = some (ob.ren ρ)) : ∀ b, TabB w b → ¬ lentX (g.ren ρ) pre b := by
  rintro b hb ⟨i, ob, h1, h2⟩
  obtain ⟨h5, h3⟩ := hw.fr.tabB hb
  rcases (hw.obj _ _ (hpre i ob h1)).mine (by rw [blk_ren (agree_ren g fun _ => True) trivial]; exact h2) with h4 | h4
  · exact absurd h3 (Nat.not_lt.2 h4)
  · exact Γ.tabX b h5 h4
theorem WI.into {g : Gh} {w : World} {pre : List (Nat × GObj)} (ht : TabsIn w) (hx : ∀ b, TabB w b → ¬ _root_.Go.Proofs.YtngklbnodknadaaGreatDoor.lentX (g.ren ρ) pre b) (hinj : ∀ i ∈ I, ∀ j ∈ I, ρ i = ρ j → i = j) (hI : ∀ p ∈ pre, p.1 ∈ I) (hw : WI Γ g objs w) (hpre : ∀ i ob, objL pre i = some ob → objs (ρ i) = some (ob.ren ρ)) : WI (cxO w (g.ren ρ) pre ht hx) (g.ren ρ) (objL pre) w := by
  refine ⟨hw.imm, fun i ob h => ?_, fun i j oi oj b h1 h2 h3 h4 => ?_, Fr.refl _, fun _ _ _ _ _ => rfl, GLe.refl _ _⟩
  · exact (hw.obj (ρ i) _ (hpre i ob h)).into (agree_ren g fun _ => True) trivial (fun _ _ => trivial) fun b hb => .inr ⟨i, ob, h, hb⟩
  · have e := hw.apart (ρ i) (ρ j) _ _ b (hpre i oi h1) (hpre j oj h2) (by rw [blk_ren (agree_ren g fun _ => True) trivial]; exact h3) (by rw [blk_ren (agree_ren g fun _ => True) trivial]; exact h4)
    exact hinj i (hI _ (objL_mem h1)) j (hI _ (objL_mem h2)) e
/-- Under a name of I what f1 has there, else what f0 has. -/
def pull {α : Type} (I : List Nat) (ρ : Nat → Nat) (f1 f0 : Nat → α) : Nat → α := fun k => match I.find? (fun i => ρ i == k) with | some i => f1 i | none => f0 k
theorem pull_in {α : Type} (hinj : ∀ i ∈ I, ∀ j ∈ I, ρ i = ρ j → i = j) (f1 f0 : Nat → α) {i : Nat} (hi : i ∈ I) : pull I ρ f1 f0 (ρ i) = f1 i := by
  unfold pull
  cases h : I.find? (fun j => ρ j == ρ i) with
  | none => exact absurd (List.find?_eq_none.1 h i hi) (by simp)
  | some j => rw [hinj j (List.mem_of_find?_eq_some h) i hi (by simpa using List.find?_some h)]
theorem pull_out {α : Type} (f1 f0 : Nat → α) {k : Nat} (h : ∀ i ∈ I, ρ i ≠ k) : pull I ρ f1 f0 k = f0 k := by
  unfold pull
  rw [List.find?_eq_none.2 fun i hi => by simpa using h i hi]
theorem WI.out {g gc : Gh} {w w' : World} {pre post : List (Nat × GObj)} {ht : TabsIn w} {hx : ∀ b, TabB w b → ¬ _root_.Go.Proofs.YtngklbnodknadaaGreatDoor.lentX (g.ren ρ) pre b} (hinj : ∀ i ∈ I, ∀ j ∈ I, ρ i = ρ j → i = j) (hI : ∀ p ∈ pre, p.1 ∈ I) (hI2 : ∀ p ∈ post, p.1 ∈ I) (hw : WI Γ g objs w) (hpre : ∀ i ob, objL pre i = some ob → objs (ρ i) = some (ob.ren ρ))
    (hnew : ∀ i ∈ I, objL pre i = none → objs (ρ i) = some .vac) (hall : ∀ i ∈ I, ∃ ob, objL post i = some ob) (hv : ∀ i ob, objL pre i = none → objL post i = some ob → ob.isVac = false) (hhas : ∀ i ob, objL post i = some ob → ∀ id, ob.has id = true → id ∈ I)
    (h : WI (cxO w (g.ren ρ) pre ht hx) gc (objL post) w') : ∃ g', GLe (fun _ => True) g g' ∧ WI Γ g' (ovr objs (renP ρ post)) w' ∧ Agree ρ g' gc (· ∈ I) := by
  have hA : Agree ρ ⟨gc.S, pull I ρ gc.blk g.blk, pull I ρ gc.row g.row, pull I ρ gc.len g.len⟩ gc (· ∈ I) := ⟨rfl, fun i hi => (pull_in hinj _ _ hi).symm, fun i hi => (pull_in hinj _ _ hi).symm, fun i hi => (pull_in hinj _ _ hi).symm⟩
  have hsp : ∀ k, (∃ i ∈ I, ρ i = k) ∨ ∀ i ∈ I, ρ i ≠ k := fun k => by
    by_cases hk : ∃ i ∈ I, ρ i = k
    · exact .inl hk
    · exact .inr fun i hi e => hk ⟨i, hi, e⟩
  have hle : GLe (fun _ => True) g ⟨gc.S, pull I ρ gc.blk g.blk, pull I ρ gc.row g.row, pull I ρ gc.len g.len⟩ := by
    have hpn : ∀ i ∈ I, (∃ ob, objL pre i = some ob) ∨ g.len (ρ i) = 0 ∧ 1 ≤ gc.len i := fun i hi => by
      cases h1 : objL pre i with
      | some ob => exact .inl ⟨ob, rfl⟩
      | none =>
        refine .inr ⟨hw.obj _ _ (hnew i hi h1), ?_⟩
        obtain ⟨ob, h2⟩ := hall i hi
        have h3 := h.obj i ob h2
        have h4 := hv i ob h1 h2
        cases ob with
        | vac => cases h4
        | gone => cases h4
        | cells _ _ => obtain ⟨_, a0, -⟩ := h3; omega
        | barr _ _ _ => obtain ⟨_, a0, -⟩ := h3; omega
        | row _ _ _ => obtain ⟨_, a0, -⟩ := h3; omega
        | map _ _ => obtain ⟨_, a0, -⟩ := h3; omega
        | stk _ _ _ _ => obtain ⟨_, a0, -⟩ := h3; omega
        | grid _ _ _ _ => obtain ⟨_, a0, -⟩ := h3; omega
        | rmap _ _ _ _ => obtain ⟨_, _, a0, -⟩ := h3; exact a0
        | bld _ _ _ => obtain ⟨_, _, a0, -⟩ := h3; exact a0
        | frow _ _ _ _ _ => obtain ⟨_, _, _, a0, -⟩ := h3; omega
        | rdr _ _ => obtain ⟨_, _, a0, -⟩ := h3; exact a0
        | seen _ => exact h3.1
    refine ⟨h.ext.S, fun k _ hk => ?_, fun k _ => ?_, fun k _ hk => ?_⟩ <;> rcases hsp k with ⟨i, hi, rfl⟩ | hk2
    · show pull I ρ gc.blk g.blk (ρ i) = _
      rw [pull_in hinj _ _ hi]
      rcases hpn i hi with hp | ⟨h0, -⟩
      · exact h.ext.blk i hp hk
      · omega
    · exact pull_out _ _ hk2
    · show _ ≤ pull I ρ gc.len g.len (ρ i)
      rw [pull_in hinj _ _ hi]
      rcases hpn i hi with hp | ⟨h0, h1⟩
      · exact h.ext.len i hp
      · omega
    · show _ ≤ pull I ρ gc.len g.len k
      rw [pull_out _ _ hk2]; exact Nat.le_refl _
    · replace hk : pull I ρ gc.len g.len (ρ i) = _ := hk
      show pull I ρ gc.row g.row (ρ i) = _
      rw [pull_in hinj _ _ hi] at hk ⊢
      rcases hpn i hi with hp | ⟨h0, h1⟩
      · exact h.ext.row i hp hk
      · omega
    · exact pull_out _ _ hk2
  have hM : ∀ b, Mine (cxO w (g.ren ρ) pre ht hx) b → Mine Γ b := fun b hb => by
    rcases hb with hb | ⟨i, ob, h1, h2⟩
    · exact .inl (Nat.le_trans hw.fr.size hb)
    · exact (hw.obj _ _ (hpre i ob h1)).mine (by rw [blk_ren (agree_ren g fun _ => True) trivial]; exact h2)
  have hX : ∀ k ok b, (∀ i ∈ I, ρ i ≠ k) → objs k = some ok → ok.blk g k b → ¬ (cxO w (g.ren ρ) pre ht hx).X b := by
    rintro k ok b hk h1 h2 ⟨i, ob, h3, h4⟩
    exact hk i (hI _ (objL_mem h3)) (hw.apart (ρ i) k _ _ b (hpre i ob h3) h1 (by rw [blk_ren (agree_ren g fun _ => True) trivial]; exact h4) h2)
  have hget : ∀ k, (∀ i ∈ I, ρ i ≠ k) → ovr objs (renP ρ post) k = objs k := fun k hk => by
    unfold ovr; rw [look_out fun p hp => hk _ (hI2 p hp)]; rfl
  have hself : ∀ i ∈ I, ovr objs (renP ρ post) (ρ i) = (objL post i).map (·.ren ρ) := fun i hi => by
    obtain ⟨ob, h1⟩ := hall i hi
    unfold ovr; rw [look_in hinj hI2 hi, h1]; rfl
  have hback : ∀ k ok, ovr objs (renP ρ post) k = some ok → (∃ i ob, i ∈ I ∧ ρ i = k ∧ objL post i = some ob ∧ ok = ob.ren ρ) ∨ ((∀ i ∈ I, ρ i ≠ k) ∧ objs k = some ok) := fun k ok hk => by
    rcases hsp k with ⟨i, hi, rfl⟩ | hk2
    · rw [hself i hi] at hk
      obtain ⟨ob, h1⟩ := hall i hi
      rw [h1] at hk
      exact .inl ⟨i, ob, hi, rfl, h1, by simpa using hk.symm⟩
    · rw [hget k hk2] at hk
      exact .inr ⟨hk2, hk⟩
  have hblk2 : ∀ (k : Nat) (ok : GObj), (∀ i ∈ I, ρ i ≠ k) → ok.blk ⟨gc.S, pull I ρ gc.blk g.blk, pull I ρ gc.row g.row, pull I ρ gc.len g.len⟩ k = ok.blk g k := fun k ok hk => blk_same (pull_out _ _ hk) (pull_out _ _ hk) ok
  refine ⟨_, hle, ⟨h.imm, fun k ok hk => ?_, fun i j oi oj b h1 h2 h3 h4 => ?_, ?_, fun b o hb hx hnt => ?_, hw.ext.trans (hle.weak fun _ _ => trivial)⟩, hA⟩
  · rcases hback k ok hk with ⟨i, ob, hi, rfl, h1, rfl⟩ | ⟨hk2, h1⟩
    · exact (h.obj i ob h1).out hA hi (hhas i ob h1) hM
    · have h2 := hw.obj k ok h1
      refine h2.same hle (pull_out _ _ hk2) (pull_out _ _ hk2) (pull_out _ _ hk2) (fun _ _ => trivial) fun b hb => ?_
      have hlt := hw.blk_lt h1 hb
      have hx := hX k ok b hk2 h1 hb
      exact ⟨h.fr.block b hlt hx, fun o => h.old b o hlt hx (hw.ntab h1 hb)⟩
  · rcases hback i oi h1 with ⟨i', oi', hi, rfl, p1, rfl⟩ | ⟨hi, p1⟩ <;> rcases hback j oj h2 with ⟨j', oj', hj, rfl, p2, rfl⟩ | ⟨hj, p2⟩
    · rw [blk_ren hA hi] at h3
      rw [blk_ren hA hj] at h4
      rw [h.apart i' j' oi' oj' b p1 p2 h3 h4]
    · exfalso
      rw [blk_ren hA hi] at h3
      rw [hblk2 j oj hj] at h4
      rcases (h.obj i' oi' p1).mine h3 with h5 | h5
      · exact absurd (hw.blk_lt p2 h4) (Nat.not_lt.2 h5)
      · exact hX j oj b hj p2 h4 h5
    · exfalso
      rw [hblk2 i oi hi] at h3
      rw [blk_ren hA hj] at h4
      rcases (h.obj j' oj' p2).mine h4 with h5 | h5
      · exact absurd (hw.blk_lt p1 h3) (Nat.not_lt.2 h5)
      · exact hX i oi b hi p1 h3 h5
    · rw [hblk2 i oi hi] at h3
      rw [hblk2 j oj hj] at h4
      exact hw.apart i j oi oj b p1 p2 h3 h4
  · refine ⟨h.fr.os.trans hw.fr.os, h.fr.tape.trans hw.fr.tape, h.fr.output.trans hw.fr.output, Nat.le_trans hw.fr.size h.fr.size, fun k hk hx => ?_⟩
    refine (h.fr.block k (Nat.lt_of_lt_of_le hk hw.fr.size) fun e => ?_).trans (hw.fr.block k hk hx)
    rcases hM k (.inr e) with h1 | h1
    · omega
    · exact hx h1
  · show gc.S b o = _
    rw [h.old b o (Nat.lt_of_lt_of_le hb hw.fr.size) (fun e => ?_) fun q => hnt (hw.fr.tabB q).1]
    · exact hw.old b o hb hx hnt
    · rcases hM b (.inr e) with h1 | h1
      · omega
      · exact hx h1
/-! ### Checks -/
mutual
def T.ids : T → List Nat
  | .ref i _ => [i]
  | .own _ _ i => [i]
  | .mrow i _ => [i]
  | .mp i => [i]
  | .stk i _ _ => [i]
  | .fn _ l => T.idss l
  | .bf _ l => T.idss l
  | .tup l => T.idss l
  | .ag l => T.idss l
  | _ => []
def T.idss : List T → List Nat
  | [] => []
  | t :: l => t.ids ++ T.idss l
end
mutual
theorem has_ids : ∀ {t : T} {id : Nat}, t.has id = true → id ∈ t.ids
  | .d _, _, h => by simp [T.has] at h
  | .pi _, _, h => by simp [T.has] at h
  | .pr _, _, h => by simp [T.has] at h
  | .und, _, h => by simp [T.has] at h
  | .ref _ _, _, h => by simp [T.has] at h; simp [T.ids, h]
  | .own _ _ _, _, h => by simp [T.has] at h; simp [T.ids, h]
  | .mrow _ _, _, h => by simp [T.has] at h; simp [T.ids, h]
  | .mp _, _, h => by simp [T.has] at h; simp [T.ids, h]
  | .stk _ _ _, _, h => by simp [T.has] at h; simp [T.ids, h]
  | .fn _ l, _, h => by rw [T.ids]; exact hass_ids (l := l) (by simpa [T.has] using h)
  | .bf _ l, _, h => by rw [T.ids]; exact hass_ids (l := l) (by simpa [T.has] using h)
  | .tup l, _, h => by rw [T.ids]; exact hass_ids (l := l) (by simpa [T.has] using h)
  | .ag l, _, h => by rw [T.ids]; exact hass_ids (l := l) (by simpa [T.has] using h)
theorem hass_ids : ∀ {l : List T} {id : Nat}, T.hass id l = true → id ∈ T.idss l
  | [], _, h => by simp [T.hass] at h
  | t :: l, _, h => by
    rw [T.hass, Bool.or_eq_true] at h
    rw [T.idss, List.mem_append]
    exact h.imp has_ids hass_ids
end
def GObj.ids : GObj → List Nat
  | .cells _ ts => T.idss ts
  | .barr _ _ ts => T.idss ts
  | .frow _ _ _ _ ts => T.idss ts
  | .rdr _ ts => T.idss ts
  | .seen c => [c]
  | _ => []
def inB (I : List Nat) (i : Nat) : Bool := I.any fun j => Nat.beq j i
theorem inB_mem {I : List Nat} {i : Nat} (h : inB I i = true) : i ∈ I := by
  obtain ⟨j, hj, e⟩ := List.any_eq_true.1 h
  rw [← Nat.eq_of_beq_eq_true e]; exact hj
def rn (R : List (Nat × Nat)) : Nat → Nat := fun i => (R.find? fun p => Nat.beq p.1 i).elim i (·.2)
def newsOf (I : List Nat) (pre : List (Nat × GObj)) : List Nat := I.filter fun i => !inB (pre.map (·.1)) i
def chkO (I : List Nat) (ρ : Nat → Nat) (args : List T) (pre : List (Nat × GObj)) (res : T) (post : List (Nat × GObj)) : Bool :=
  (pre.all fun p => inB I p.1) && ((post.all fun p => inB I p.1) && ((I.all fun i => inB (post.map (·.1)) i) && ((post.all fun p => p.2.ids.all (inB I)) && ((post.all fun p => inB (pre.map (·.1)) p.1 || !p.2.isVac) && ((I.all fun i => I.all fun j => !Nat.beq (ρ i) (ρ j) || Nat.beq i j) && ((T.idss args).all (inB I) && res.ids.all (inB I)))))))
theorem has_in {ob : GObj} {id : Nat} (h : ob.has id = true) : id ∈ ob.ids := by
  cases ob with
  | cells e ts => exact hass_ids h
  | barr e l ts => exact hass_ids h
  | frow e k v l ts => exact hass_ids h
  | rdr e ts => exact hass_ids h
  | seen c => (have h : (c == id) = true := h; simp only [beq_iff_eq] at h; subst h; exact List.mem_singleton.2 rfl)
  | _ => simp [GObj.has] at h
theorem objL_none {l : List (Nat × GObj)} {i : Nat} (h : objL l i = none) : i ∉ l.map (·.1) := fun hm => by
  obtain ⟨ob, h1⟩ := objL_of_mem hm
  rw [h] at h1; cases h1
theorem t_callo {f : FuncId} {xs : List Operand} {ts : Array TypeId} {args : List T} {pre : List (Nat × GObj)} {res : T} {post : List (Nat × GObj)} (R : List (Nat × Nat)) (ho : o.op = .call { callee := .value (.func f), args := xs.toArray, argTypes := ts })
    (hE : ∀ args w, (callFunc f args).run P w = .ok (.enter f args) w) (hF : FnO P f args pre res post) (hx : TLes σ xs (T.rens (rn R) args)) (hc : chkO (R.map (·.1)) (rn R) args pre res post = true) :
    Tri P o σ (renP (rn R) pre ++ (newsOf (R.map (·.1)) pre).map fun i => (rn R i, .vac)) (res.ren (rn R)) (renP (rn R) post) := by
  intro Γ g objs a w Q hr hp hw
  generalize hρ : rn R = ρ at *
  generalize hI : R.map (·.1) = I at *
  unfold chkO at hc
  simp only [Bool.and_eq_true, List.all_eq_true] at hc
  obtain ⟨c1, c2, c3, c4, c5, c6, c7, c8⟩ := hc
  have hinj : ∀ i ∈ I, ∀ j ∈ I, ρ i = ρ j → i = j := fun i hi j hj e => by
    have := c6 i hi j hj
    rw [e, Nat.beq_refl] at this
    exact Nat.eq_of_beq_eq_true (by simpa using this)
  have hpre : ∀ i ob, objL pre i = some ob → objs (ρ i) = some (ob.ren ρ) := fun i ob h => hp (ρ i, ob.ren ρ) (List.mem_append_left _ (List.mem_map.2 ⟨(i, ob), objL_mem h, rfl⟩))
  have hnew : ∀ i ∈ I, objL pre i = none → objs (ρ i) = some .vac := fun i hi h => hp (ρ i, .vac) (List.mem_append_right _ (List.mem_map.2 ⟨i, List.mem_filter.2 ⟨hi, by
    have := objL_none h
    cases hb : inB (pre.map (·.1)) i with
    | false => rfl
    | true => exact absurd (inB_mem hb) this⟩, rfl⟩))
  have hreps := reps_of (a := a) (g := g) (fun x hx => rep_op hr (by rw [ho]; simp [Op.operands, Call.operands, hx])) hx
  have hreps2 := (Reps.ren (agree_ren (ρ := ρ) g fun _ => True) args _ fun _ _ => trivial).2 hreps
  unfold Oper.wp
  have hrun : (execOp a.eval o).run P w = .ok (.enter f (xs.map a.eval).toArray) w := by
    unfold execOp; rw [ho]
    simp [resolve, Deferred.ofValue, Act.eval, invoke, hE]
  rw [hrun]
  refine (hF w _ _ hw.fr.tabs (hw.lentX hpre) (WI.into hw.fr.tabs (hw.lentX hpre) hinj (fun p hp => inB_mem (c1 p hp)) hw hpre) hreps2).mono ?_
  rintro e w' ⟨v, gc, rfl, h1, h2⟩
  obtain ⟨g', k1, k2, k3⟩ := WI.out hinj (fun p hp => inB_mem (c1 p hp)) (fun p hp => inB_mem (c2 p hp)) hw hpre hnew (fun i hi => objL_of_mem (inB_mem (c3 i hi))) (fun i ob h3 h4 => by
    have := c5 (i, ob) (objL_mem h4)
    rw [Bool.or_eq_true] at this
    rcases this with h6 | h6
    · exact absurd (inB_mem h6) (objL_none h3)
    · simpa using h6) (fun i ob h3 id h4 => inB_mem (c4 (i, ob) (objL_mem h3) id (has_in h4))) h2
  exact ⟨g', v, rfl, k1, (RepT.ren k3 res v fun id h => inB_mem (c8 id (has_ids h))).1 h1, k2⟩
/-! ### By the body -/
inductive TRs (σ : Nat → T) : List ResultVar → List T → Prop
  | nil : TRs σ [] []
  | cons {r : Tmp} {t : T} {rs : List ResultVar} {ts : List T} (h : TLe (σ r) t) (ht : TRs σ rs ts) : TRs σ (.tmp r :: rs) (t :: ts)
def resOf : List T → T
  | [t] => t
  | l => .tup l
theorem trs_run {g : Gh} {tmps : Array Value} (w : World) (hr : ∀ t, RepT g (σ t) (tmps.getD t undef)) : ∀ {rs : List ResultVar} {ts : List T}, TRs σ rs ts → ∃ vs : List Value, (List.mapM (m := Sem) (fun r : ResultVar => match r with
    | .tmp t => pure (tmps.getD t undef)
    | .cell a t => do loadVar t (← asAddr (tmps.getD a undef))) rs).run P w = .ok vs w ∧ Reps g ts vs
  | _, _, .nil => ⟨[], rfl, .nil⟩
  | _, _, @TRs.cons _ r t rs ts h ht => by
    obtain ⟨vs, h1, h2⟩ := trs_run w hr ht
    refine ⟨tmps.getD r undef :: vs, ?_, .cons (h g _ (hr r)) h2⟩
    rw [List.mapM_cons]
    simp only [Sem.run_bind, Sem.run_pure, Result.andThen_ok, h1]
theorem results_trs {fn : Func} {rs : List ResultVar} {ts : List T} {g : Gh} {tmps : Array Value} (w : World) (hf : fn.results = rs.toArray) (hr : ∀ t, RepT g (σ t) (tmps.getD t undef)) (h : TRs σ rs ts) : ∃ v, (results fn tmps).run P w = .ok v w ∧ RepT g (resOf ts) v := by
  obtain ⟨vs, h1, h2⟩ := trs_run (P := P) w hr h
  have hrun : (results fn tmps).run P w = .ok (if h : vs.toArray.size = 1 then vs.toArray[0] else .tuple vs.toArray) w := by
    unfold results
    rw [hf]
    simp only [List.mapM_toArray, Sem.run_bind, Sem.run_map, Sem.run_pure]
    exact congrArg (fun x => (Result.andThen x fun (a : List Value) w' => Result.ok a.toArray w').andThen fun (a : Array Value) w' => Result.ok (if h : a.size = 1 then a[0] else Value.tuple a) w') h1
  refine ⟨_, hrun, ?_⟩
  cases h2 with
  | nil => exact .tup .nil
  | @cons t l x xs h3 h4 =>
    cases h4 with
    | nil => exact h3
    | @cons t2 l2 x2 xs2 h5 h6 =>
      rw [dif_neg (by simp)]
      exact .tup (.cons h3 (.cons h5 h6))
theorem reps_len : ∀ {l : List T} {g : Gh} {xs : List Value}, Reps g l xs → xs.length = l.length
  | _, _, _, .nil => rfl
  | _, _, _, .cons _ ht => by simp [reps_len ht]
theorem reps_slots {g : Gh} {args : List T} {vs : List Value} (h : Reps g args vs) (m : Nat) (t : Nat) : RepT g (envL args t) ((vs.toArray ++ Array.replicate m undef).getD t undef) := by
  show RepT g (args.getD t .und) _
  have hl := reps_len h
  by_cases ht : t < args.length
  · obtain ⟨v, hv, hrv⟩ := reps_at h (i := t) (t := args[t]) (List.getElem?_eq_getElem ht)
    rw [List.getD_eq_getElem?_getD, List.getElem?_eq_getElem ht, Array.getD_eq_getD_getElem?, Array.getElem?_append_left (by simp [hl]; exact ht)]
    simpa [hv] using hrv
  · rw [List.getD_eq_getElem?_getD, List.getElem?_eq_none (by omega)]
    exact .und
/-- A function that is lent objects, by its body. -/
theorem FnO.of_AW {f : FuncId} {fn : Func} {c : Code} {args ress : List T} {pre post : List (Nat × GObj)} {rs : List ResultVar} (hf : P.funcs[f]? = some fn) (hb : fn.body = some c) (hr : fn.results = rs.toArray) (hN : fn.ntmps = n) (hk : args.length ≤ n) (hp : (pre.all fun p => Nat.ble 1000 p.1) = true)
    (h : ∀ Γ : Cx, (∀ i, i < 1000 → ¬ Γ.A i) → AW P Γ n c (envL args) (objL pre) fun e σ' objs' => (e = .ret ∨ e = .normal) ∧ TRs σ' rs ress ∧ ∀ p ∈ post, objs' p.1 = some p.2) : FnO P f args pre (resOf ress) post := by
  intro w g vs ht hx hw hreps
  have hl := reps_len hreps
  refine calls_of_wp hf hb (wp_mono (h (cxO w g pre ht hx) (fun i hi ⟨ob, hob⟩ => ?_) _ w ⟨rfl, ?_, g, reps_slots hreps _, hw⟩) ?_)
  · have := List.all_eq_true.1 hp _ (objL_mem hob)
    have := Nat.le_of_ble_eq_true this
    simp only at this
    omega
  · simp [hN, hl]; omega
  · rintro e a' w' ⟨σ', objs', ⟨he, hres, hpost⟩, hd, hs, g', hr', hw'⟩
    obtain ⟨v, hv, hrv⟩ := results_trs (P := P) w' hr hr' hres
    have hsub := objL_sub hpost
    have key : a'.defers = [] ∧ ∃ v, (results fn a'.tmps).run P w' = .ok v w' ∧ ∃ u g', Ending.returned v = .returned u ∧ RepT g' (resOf ress) u ∧ WI (cxO w g pre ht hx) g' (objL post) w' :=
      ⟨hd, v, hv, v, g', rfl, hrv, hw'.imm, fun id ob h => hw'.obj id ob (hsub id ob h), fun i j oi oj b h1 h2 => hw'.apart i j oi oj b (hsub _ _ h1) (hsub _ _ h2), hw'.fr, hw'.old, hw'.ext⟩
    rcases he with rfl | rfl
    · exact key
    · exact key
/-- A function without objects, of any number of results. -/
theorem FnD.of_AWs {f : FuncId} {fn : Func} {c : Code} {args ress : List T} {rs : List ResultVar} (hf : P.funcs[f]? = some fn) (hb : fn.body = some c) (hr : fn.results = rs.toArray) (hN : fn.ntmps = n) (hk : args.length ≤ n) (hid : (resOf ress).ids = [])
    (h : ∀ Γ : Cx, (∀ i, i < 1000 → ¬ Γ.A i) → AW P Γ n c (envL args) (objL []) fun e σ' _ => (e = .ret ∨ e = .normal) ∧ TRs σ' rs ress) : FnD P f args (resOf ress) := by
  intro w g vs htab hi hreps
  have hl := reps_len hreps
  refine calls_of_wp hf hb (wp_mono (h ⟨fun _ => False, w, g, fun _ => False, htab, fun _ _ => id, []⟩ (fun _ _ => id) _ w ⟨rfl, ?_, g, reps_slots hreps _, ⟨hi, fun id ob h => ?_, fun i j oi oj b h => ?_, Fr.refl _, fun _ _ _ _ _ => rfl, GLe.refl _ _⟩⟩) ?_)
  · simp [hN, hl]; omega
  · cases h
  · cases h
  · rintro e a' w' ⟨σ', objs', ⟨he, hres⟩, hd, hs, g', hr', hw'⟩
    obtain ⟨v, hv, hrv⟩ := results_trs (P := P) w' hr hr' hres
    have key : a'.defers = [] ∧ ∃ v, (results fn a'.tmps).run P w' = .ok v w' ∧ ∃ v' S', Ending.returned v = .returned v' ∧ SLe g.S S' ∧ (∀ b o, b < w.heap.size → ¬ TabB w b → S' b o = g.S b o) ∧ (∀ b o x, S' b o = some x → w'.cell? ⟨b, o, none⟩ = some x) ∧ RepT ⟨S', g.blk, g.row, g.len⟩ (resOf ress) v' ∧ Below w.heap.size w w' := by
      refine ⟨hd, v, hv, v, g'.S, rfl, hw'.ext.S, fun b o hb => hw'.old b o hb id, hw'.imm, ?_, hw'.fr.below fun _ => id⟩
      exact hrv.mono (A := fun _ => False) (g := g') (g' := ⟨g'.S, g.blk, g.row, g.len⟩) ⟨SLe.refl _, fun _ h => h.elim, fun _ h => h.elim, fun _ h => h.elim⟩ fun id h => by have := has_ids h; rw [hid] at this; cases this
    rcases he with rfl | rfl
    · exact key
    · exact key
end
end Go.Proofs.YtngklbnodknadaaGreatDoor
end

section
namespace Go.Proofs.YtngklbnodknadaaGreatDoor
open Go.RowKit

abbrev strV (l : List UInt8) : Value := .string ⟨l.toArray⟩
abbrev strD (l : List UInt8) : D := .v (strV l)
abbrev strT (l : List UInt8) : T := .d (.v (strV l))
abbrev intT (n : Int) : T := .d (.v (.int .i64 n))
abbrev u8T (b : UInt8) : T := .d (.v (.int .u8 (b.toNat : Int)))
abbrev boolT (b : Bool) : T := .d (.v (.bool b))
theorem str_size (l : List UInt8) : (⟨l.toArray⟩ : ByteArray).size = l.length := by simp [ByteArray.size]
theorem str_toList (l : List UInt8) : (⟨l.toArray⟩ : ByteArray).toList = l := by rw [Lib.toList_data]
theorem str_get (l : List UInt8) (i : Nat) : (⟨l.toArray⟩ : ByteArray)[i]? = l[i]? := by
  by_cases h : i < l.length
  · have h2 : i < (⟨l.toArray⟩ : ByteArray).size := by rw [str_size]; exact h
    rw [getElem?_pos _ i h2, List.getElem?_eq_getElem h]
    rfl
  · have h2 : ¬ i < (⟨l.toArray⟩ : ByteArray).size := by rw [str_size]; exact h
    rw [getElem?_neg _ i h2, List.getElem?_eq_none (by omega)]
theorem str_app (l m : List UInt8) : (⟨l.toArray⟩ : ByteArray) ++ ⟨m.toArray⟩ = ⟨(l ++ m).toArray⟩ := by
  rw [ByteArray.ext_iff]
  simp
section
variable {P : Program} {o : Oper} {σ : Nat → T} {Γ : Cx} {n : Nat} {objs : Objs} {Q : GPost}
theorem t_len_s {t : TypeId} {x : Operand} {l : List UInt8} (ho : o.op = .call { callee := .builtin .len, args := #[x], argTypes := #[t] }) (ht : P.underlying t = some .string) (hx : opT σ x = strT l) : Tri P o σ [] (.d (.v (.int .i64 l.length))) [] := by
  have := t_len_str ho ht hx
  rwa [str_size] at this
theorem t_index_s {t : TypeId} {x i : Operand} {l : List UInt8} {kd : IntKind} {m : Nat} {b : UInt8} (ho : o.op = .index t x i) (ht : P.underlying t = some .string) (hx : opT σ x = strT l) (hi : opT σ i = .d (.v (.int kd m))) (hb : l[m]? = some b) : Tri P o σ [] (u8T b) [] :=
  .val fun _ g _ ac w hrp _ _ => ⟨.int .u8 b.toNat, by
    have e1 := hrp x (by rw [ho]; simp [Op.operands])
    have e2 := hrp i (by rw [ho]; simp [Op.operands])
    rw [hx] at e1
    rw [hi] at e2
    unfold execOp; rw [ho]
    simp only [inv_v e1, inv_v e2, Instr.index, asIntOf, Sem.run_bind, Sem.run_pure, Result.andThen_ok, run_underlying ht]
    rw [if_pos (Int.natCast_nonneg m)]
    simp only [Int.toNat_natCast, str_get, hb, Sem.run_pure, Result.andThen_ok], rep_v rfl⟩
/-- A bound of a part, and what it is. -/
inductive Lo (σ : Nat → T) : Option Operand → Nat → Prop
  | no : Lo σ none 0
  | at_ {x : Operand} {kd : IntKind} {a : Nat} (h : opT σ x = .d (.v (.int kd a))) : Lo σ (some x) a
inductive Hi (σ : Nat → T) (len : Nat) : Option Operand → Nat → Prop
  | no : Hi σ len none len
  | at_ {x : Operand} {kd : IntKind} {b : Nat} (h : opT σ x = .d (.v (.int kd b))) : Hi σ len (some x) b
theorem bounds_run {isS : Bool} {len cap : Nat} {lo hi : Option Operand} {a b : Nat} {ac : Act} {g : Gh} {w : World} (hlo : Lo σ lo a) (hhi : Hi σ len hi b) (h1 : a ≤ b) (h2 : b ≤ len) (h3 : len ≤ cap) (hr : ∀ x, (some x = lo ∨ some x = hi) → RepT g (opT σ x) (ac.eval x)) :
    (Instr.sliceBounds isS len cap (lo.map ac.eval) (hi.map ac.eval) none).run P w = .ok (a, b, cap) w := by
  have h4 : b ≤ cap := Nat.le_trans h2 h3
  cases hlo with
  | no =>
    cases hhi with
    | no => simp [Instr.sliceBounds]
    | at_ h =>
      have e := hr _ (.inr rfl)
      rw [h] at e
      simp [Instr.sliceBounds, Instr.sliceBound, asIntOf, inv_v e, h4]
  | at_ h' =>
    have e' := hr _ (.inl rfl)
    rw [h'] at e'
    cases hhi with
    | no => simp [Instr.sliceBounds, Instr.sliceBound, asIntOf, inv_v e', h1]
    | at_ h =>
      have e := hr _ (.inr rfl)
      rw [h] at e
      simp [Instr.sliceBounds, Instr.sliceBound, asIntOf, inv_v e, inv_v e', h4, h1]
theorem t_slice_s {t : TypeId} {x : Operand} {lo hi : Option Operand} {l : List UInt8} {a b : Nat} (ho : o.op = .slice t x lo hi none) (ht : P.underlying t = some .string) (hx : opT σ x = strT l) (hlo : Lo σ lo a) (hhi : Hi σ l.length hi b) (h1 : a ≤ b) (h2 : b ≤ l.length) : Tri P o σ [] (strT ((l.drop a).take (b - a))) [] :=
  .val fun _ g _ ac w hrp _ _ => ⟨strV ((l.drop a).take (b - a)), by
    have e1 := hrp x (by rw [ho]; simp [Op.operands])
    rw [hx] at e1
    have hB := bounds_run (P := P) (isS := false) (w := w) (cap := l.length) hlo hhi h1 h2 (Nat.le_refl _) (fun y hy => hrp y (by rw [ho]; rcases hy with rfl | rfl <;> simp [Op.operands]))
    unfold execOp; rw [ho]
    simp only [inv_v e1, Instr.sliceAt, Instr.slice, Sem.run_bind, run_underlying ht, Result.andThen_ok, Option.map_none, Option.isSome_none, Bool.false_eq_true, if_false, str_size, hB, Sem.run_pure, Lib.extract_eq], rep_v rfl⟩
theorem t_slice_sa {t : TypeId} {x lo : Operand} {l : List UInt8} {a : Nat} {kd : IntKind} (ho : o.op = .slice t x (some lo) none none) (ht : P.underlying t = some .string) (hx : opT σ x = strT l) (hlo : opT σ lo = .d (.v (.int kd a))) (h1 : a ≤ l.length) : Tri P o σ [] (strT (l.drop a)) [] := by
  have := t_slice_s ho ht hx (.at_ hlo) .no h1 (Nat.le_refl _)
  rwa [List.take_of_length_le (by simp)] at this
theorem t_slice_sb {t : TypeId} {x hi : Operand} {l : List UInt8} {b : Nat} {kd : IntKind} (ho : o.op = .slice t x none (some hi) none) (ht : P.underlying t = some .string) (hx : opT σ x = strT l) (hhi : opT σ hi = .d (.v (.int kd b))) (h1 : b ≤ l.length) : Tri P o σ [] (strT (l.take b)) [] := by
  have := t_slice_s ho ht hx .no (.at_ hhi) (Nat.zero_le _) h1
  simpa using this
/-- A part of a slice. -/
theorem t_slice_d {t e : TypeId} {x : Operand} {lo hi : Option Operand} {k : Nat} {l : List D} {a b : Nat} (ho : o.op = .slice t x lo hi none) (ht : elemOf? P t = some (e, k)) (hx : TLe (opT σ x) (.d (.sl k l))) (hlo : Lo σ lo a) (hhi : Hi σ l.length hi b) (h1 : a ≤ b) (h2 : b ≤ l.length) : Tri P o σ [] (.d (.sl k ((l.drop a).take (b - a)))) [] :=
  .val fun _ g _ ac w hrp _ _ => by
    have e1 := hx g _ (hrp x (by rw [ho]; simp [Op.operands]))
    obtain ⟨hu, inf, hinf, hsz⟩ := elem_spec ht
    generalize he : ac.eval x = y at e1
    cases e1 with
    | d h =>
      cases h with
      | @sl _ _ p cap xs h3 hr hc hb hn =>
        have hlen := h3.len
        have hB := bounds_run (P := P) (isS := true) (w := w) (cap := cap) hlo hhi h1 h2 hc (fun y hy => hrp y (by rw [ho]; rcases hy with rfl | rfl <;> simp [Op.operands]))
        have hl2 : ((l.drop a).take (b - a)).length = b - a := by simp; omega
        refine ⟨.slice (if cap = a then p else p.map (·.add (a * k))) (b - a) (cap - a), ?_, ?_⟩
        · unfold execOp; rw [ho]
          simp only [he, Instr.sliceAt, Instr.slice, Sem.run_bind, run_underlying hu, Result.andThen_ok, Option.map_none, hB, sizeOf, typeInfo, Sem.run_pure]
          simp [hinf, hsz]
        · have hrow : RowS g.S (if cap = a then p else p.map (·.add (a * k))) ((xs.drop (a * k)).take ((b - a) * k)) := by
            obtain ⟨bk, off, q1, q2⟩ := hr
            refine ⟨bk, off + a * k, fun h => ?_, fun i hi => ?_⟩
            · have hpos : 0 < xs.length := by simp at h; omega
              have hne : cap ≠ a := fun e => by
                simp only [List.length_take, List.length_drop] at h
                rw [hlen] at h
                have : b - a = 0 := by omega
                rw [this] at h
                simp at h
              rw [if_neg hne, q1 hpos]
              simp [Addr.add]
            · have : i < (b - a) * k ∧ a * k + i < xs.length := by simp at hi; omega
              rw [List.getElem?_take, if_pos this.1, List.getElem?_drop, Nat.add_assoc, q2 _ this.2]
          have := RepD.sl (S := g.S) ((h3.drop a).take (b - a)) hrow (cap := cap - a) (by rw [hl2]; omega) (by omega) (fun e => by
            split at e
            · next e2 => omega
            · rw [Option.map_eq_none_iff] at e
              have := hn e
              omega)
          rw [hl2] at this
          exact .d this
theorem t_slice_da {t e : TypeId} {x lo : Operand} {k a : Nat} {l : List D} {kd : IntKind} (ho : o.op = .slice t x (some lo) none none) (ht : elemOf? P t = some (e, k)) (hx : TLe (opT σ x) (.d (.sl k l))) (hlo : opT σ lo = .d (.v (.int kd a))) (h1 : a ≤ l.length) : Tri P o σ [] (.d (.sl k (l.drop a))) [] := by
  have := t_slice_d ho ht hx (.at_ hlo) .no h1 (Nat.le_refl _)
  rwa [List.take_of_length_le (by simp)] at this
/-! Strings: operators -/
theorem b_sadd (t : TypeId) (a b : List UInt8) (h : a.length + b.length ≤ 9223372036854775807) : BinR P .add t (strV a) (strV b) (strV (a ++ b)) := fun x y w => by
  simp [eqGuard, binOp, Op.stringOp, str_size, IntKind.max_i64, str_app]; omega
theorem b_sseql (t : TypeId) (a b : List UInt8) : BinR P .eql t (strV a) (strV b) (.bool (a == b)) := by
  have := b_seql (P := P) t ⟨a.toArray⟩ ⟨b.toArray⟩
  rwa [str_toList, str_toList] at this
theorem b_ssneq (t : TypeId) (a b : List UInt8) : BinR P .neq t (strV a) (strV b) (.bool (!(a == b))) := by
  have := b_sneq (P := P) t ⟨a.toArray⟩ ⟨b.toArray⟩
  rwa [str_toList, str_toList] at this
theorem b_slss (t : TypeId) (a b : List UInt8) : BinR P .lss t (strV a) (strV b) (.bool (Op.bytesLess a b)) := fun x y w => by simp [eqGuard, binOp, Op.stringOp]
/-! Conversions -/
theorem t_conv_int {src dst : TypeId} {x : Operand} {k k' : IntKind} {a : Int} (ho : o.op = .convert src dst x) (hs : P.underlying src = some (.int k)) (hd : P.underlying dst = some (.int k')) (hx : opT σ x = .d (.v (.int k a))) : Tri P o σ [] (.d (.v (.int k' (k'.wrap a)))) [] :=
  .val fun _ g _ ac w hrp _ _ => ⟨.int k' (k'.wrap a), by
    have e1 := hrp x (by rw [ho]; simp [Op.operands])
    rw [hx] at e1
    unfold execOp; rw [ho]
    simp [inv_v e1, convert, run_underlying hs, run_underlying hd, Conv.intToInt], rep_v rfl⟩
theorem t_conv_rune {src dst : TypeId} {x : Operand} {k : IntKind} {a : Int} (ho : o.op = .convert src dst x) (hs : P.underlying src = some (.int k)) (hd : P.underlying dst = some .string) (hx : opT σ x = .d (.v (.int k a))) : Tri P o σ [] (.d (.v (.string (Utf8.encode a)))) [] :=
  .val fun _ g _ ac w hrp _ _ => ⟨.string (Utf8.encode a), by
    have e1 := hrp x (by rw [ho]; simp [Op.operands])
    rw [hx] at e1
    unfold execOp; rw [ho]
    simp [inv_v e1, convert, run_underlying hs, run_underlying hd, Conv.intToString], rep_v rfl⟩
end
end Go.Proofs.YtngklbnodknadaaGreatDoor
end
