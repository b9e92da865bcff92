/-
  Gw, in one.
-/
import Derived.Test.YtngklbnodknadaaGreatDoorMaa
import Derived.Orders
import Derived.MapKept
section
namespace Go.Proofs.YtngklbnodknadaaGreatDoor
open Go.RowKit

/-! ### Objects -/
/-- vac: not there yet; gone: given away; cells; a row that grows; a map; a map whose elements are rows that grow (none: that row has been taken out). -/
inductive GObj where
  | vac
  | gone
  | cells (e : TypeId) (ts : List T)
  | row (e : TypeId) (k : Nat) (l : List D)
  | stk (e : TypeId) (k ver : Nat) (l : List D)
  | map (d : TypeDesc) (M : List (Value × D))
  | grid (eo e : TypeId) (ver : Nat) (rows : List (List D))
  | rmap (d : TypeDesc) (e : TypeId) (k : Nat) (M : List (Value × Option (List D)))
  | bld (e tb : TypeId) (l : List UInt8)
  | frow (e : TypeId) (k ver : Nat) (l : List D) (ts : List T)
  | rdr (e : TypeId) (ts : List T)
  | seen (c : Nat)
  | barr (e : TypeId) (l : List UInt8) (ts : List T)
def GObj.has (id : Nat) : GObj → Bool
  | .cells _ ts => T.hass id ts
  | .barr _ _ ts => T.hass id ts
  | .frow _ _ _ _ ts => T.hass id ts
  | .rdr _ ts => T.hass id ts
  | .seen c => c == id
  | _ => false
/-- Which blocks are its own. -/
def GObj.blk (g : Gh) (id : Nat) : GObj → Nat → Prop
  | .vac, _ => False
  | .gone, _ => False
  | .cells .., b => g.blk id = b
  | .barr .., b => g.blk id = b
  | .row .., b => (g.row id).ownBlock = some b
  | .stk .., b => (g.row id).ownBlock = some b
  | .map .., b => g.blk id = b
  | .grid .., b => g.blk id = b ∨ ∃ v ∈ rowsOf (g.row id), v.ownBlock = some b
  | .rmap .., b => g.blk id = b ∨ ∃ v ∈ rowsOf (g.row id), v.ownBlock = some b
  | .bld .., b => g.blk id = b ∨ (g.row id).ownBlock = some b
  | .frow .., b => (g.row id).ownBlock = some b
  | .rdr .., b => g.blk id = b
  | .seen _, _ => False
abbrev Objs := Nat → Option GObj
/-- A call: the world where it began (the package's tables lie there), what was known then, the old blocks that it may turn, the objects that it was lent. -/
structure Cx where
  X : Nat → Prop
  w0 : World
  g0 : Gh
  A : Nat → Prop
  tab : TabsIn w0
  tabX : ∀ b, TabB w0 b → ¬ X b
  ds : List Deferred
def Cx.S0 (Γ : Cx) : Sm := Γ.g0.S
/-- What was there when the call began has not turned, but for the blocks of X. -/
structure Fr (Γ : Cx) (w : World) : Prop where
  os : w.os = Γ.w0.os
  tape : w.tape = Γ.w0.tape
  output : w.output = Γ.w0.output
  size : Γ.w0.heap.size ≤ w.heap.size
  block : ∀ k, k < Γ.w0.heap.size → ¬ Γ.X k → w.heap[k]? = Γ.w0.heap[k]?
theorem Fr.refl (Γ : Cx) : Fr Γ Γ.w0 := ⟨rfl, rfl, rfl, Nat.le_refl _, fun _ _ _ => rfl⟩
theorem Fr.below {Γ : Cx} {w : World} (h : Fr Γ w) (hX : ∀ b, ¬ Γ.X b) : Below Γ.w0.heap.size Γ.w0 w := ⟨h.os, h.tape, h.output, h.size, fun k hk => h.block k hk (hX k)⟩
theorem Fr.trans {Γ : Cx} {w w' : World} (h : Fr Γ w) (h' : Below w.heap.size w w') : Fr Γ w' :=
  ⟨h'.os.trans h.os, h'.tape.trans h.tape, h'.output.trans h.output, Nat.le_trans h.size h'.size, fun k hk hx => (h'.block k (Nat.lt_of_lt_of_le hk h.size)).trans (h.block k hk hx)⟩
theorem Fr.stab {Γ : Cx} {w : World} {p : Nat × Nat × List Value} {b : Nat} (h : Fr Γ w) (hp : p ∈ stabs) (hb : STab Γ.w0 p b) : STab w p b := by
  have hb' := hb
  obtain ⟨off, c, t, fr, h1, h2, h3, h4, h5⟩ := hb
  refine ⟨off, c, t, fr, (h.block p.1 (Array.getElem?_eq_some_iff.1 h1).1 (Γ.tabX _ (.inr ⟨p, hp, .inl rfl⟩))).trans h1, h2, h3, Nat.lt_of_lt_of_le h4 h.size, fun i hi => ?_⟩
  rw [World.cell?_of_block (w := Γ.w0) (h.block b h4 (Γ.tabX _ (.inr ⟨p, hp, .inr hb'⟩)))]
  exact h5 i hi
theorem Fr.tabs {Γ : Cx} {w : World} (h : Fr Γ w) : TabsIn w := ⟨fun p hp => by
  obtain ⟨cs, t, fr, h0, h1⟩ := Γ.tab.one p hp
  exact ⟨cs, t, fr, h0, (h.block p.1 (Array.getElem?_eq_some_iff.1 h1).1 (Γ.tabX _ (.inl ⟨p, hp, rfl⟩))).trans h1⟩, fun p hp => by
  obtain ⟨b, hb⟩ := Γ.tab.sl p hp
  exact ⟨b, h.stab hp hb⟩⟩
theorem Fr.tabB {Γ : Cx} {w : World} {b : Nat} (h : Fr Γ w) (hb : TabB w b) : TabB Γ.w0 b ∧ b < Γ.w0.heap.size := by
  rcases hb with ⟨p, hp, rfl⟩ | ⟨p, hp, hb⟩
  · obtain ⟨cs, t, fr, h0, h1⟩ := Γ.tab.one p hp
    exact ⟨.inl ⟨p, hp, rfl⟩, (Array.getElem?_eq_some_iff.1 h1).1⟩
  · obtain ⟨b0, h0⟩ := Γ.tab.sl p hp
    rcases hb with rfl | ⟨off, c, t, fr, h1, -⟩
    · obtain ⟨_, _, _, _, h2, -⟩ := h0
      exact ⟨.inr ⟨p, hp, .inl rfl⟩, (Array.getElem?_eq_some_iff.1 h2).1⟩
    · have h3 := h.stab hp h0
      obtain ⟨_, _, _, _, h4, -⟩ := h3
      rw [h1] at h4
      have e : b = b0 := by injection h4 with h4; injection h4 with h4; have h4 := congrArg Array.toList h4; injection h4 with h4; injection h4 with h4; injection h4 with h4; injection h4
      subst e
      exact ⟨.inr ⟨p, hp, .inr h0⟩, by obtain ⟨_, _, _, _, -, -, -, h5, -⟩ := h0; exact h5⟩
def Mine (Γ : Cx) (b : Nat) : Prop := Γ.w0.heap.size ≤ b ∨ Γ.X b
inductive RepM (S : Sm) (d : TypeDesc) : List (Value × D) → List MapEntry → Prop
  | nil : RepM S d [] []
  | cons {x : Value} {y : D} {e : MapEntry} {M : List (Value × D)} {es : List MapEntry} (hk : e.key = x) (hi : Go.MapKept.IsKey d x) (h : RepD S y e.val) (ht : RepM S d M es) : RepM S d ((x, y) :: M) (e :: es)
inductive RepR (w : World) (S : Sm) (d : TypeDesc) (et : TypeId) (k : Nat) : List (Value × Option (List D)) → List MapEntry → List Value → Prop
  | nil : RepR w S d et k [] [] []
  | row {x : Value} {l : List D} {xs : List Value} {e : MapEntry} {M : List (Value × Option (List D))} {es : List MapEntry} {vs : List Value} (hk : e.key = x) (hi : Go.MapKept.IsKey d x) (ho : w.ownsRow 0 et k e.val l.length xs) (hl : RepLv S k l xs)
      (hS : ∀ b, e.val.ownBlock = some b → ∀ o, S b o = xs[o]?) (ht : RepR w S d et k M es vs) : RepR w S d et k ((x, some l) :: M) (e :: es) (e.val :: vs)
  | out {x : Value} {e : MapEntry} {M : List (Value × Option (List D))} {es : List MapEntry} {vs : List Value} (hk : e.key = x) (hi : Go.MapKept.IsKey d x) (ht : RepR w S d et k M es vs) : RepR w S d et k ((x, none) :: M) (e :: es) (undef :: vs)
def MapAt (w : World) (b : Nat) (es : List MapEntry) : Prop := ∃ clock, w.heap[b]? = some (.map es.toArray clock) ∧ Go.MapKept.Stamped es.toArray clock
def Apart2 (v v' : Value) : Prop := ∀ b, v.ownBlock = some b → v'.ownBlock ≠ some b
inductive RepG (w : World) (S : Sm) (e : TypeId) : List (List D) → List Value → Prop
  | nil : RepG w S e [] []
  | cons {l : List D} {xs : List Value} {v : Value} {rows : List (List D)} {vs : List Value} (ho : w.ownsRow 0 e 1 v l.length xs) (hl : RepLv S 1 l xs) (ht : RepG w S e rows vs) : RepG w S e (l :: rows) (v :: vs)
def bytV (l : List UInt8) : List Value := l.map fun b => .int .u8 b.toNat
def ObjAt (Γ : Cx) (g : Gh) (w : World) (id : Nat) : GObj → Prop
  | .vac => g.len id = 0
  | .gone => True
  | .cells e ts => ∃ xs, g.len id = 1 ∧ Mine Γ (g.blk id) ∧ w.heap[g.blk id]? = some (.cells xs.toArray e (0, 0)) ∧ Reps g ts xs ∧ (∀ x ∈ xs, x.oneCell' = true) ∧ ∀ o, g.S (g.blk id) o = none
  | .barr e l ts => ∃ xs, g.len id = 1 ∧ Mine Γ (g.blk id) ∧ w.heap[g.blk id]? = some (.cells (bytV l ++ xs).toArray e (0, 0)) ∧ Reps g ts xs ∧ (∀ x ∈ xs, x.oneCell' = true) ∧ ∀ o, g.S (g.blk id) o = none
  | .row e k l => ∃ xs, g.len id = l.length + 1 ∧ w.ownsRow 0 e k (g.row id) l.length xs ∧ RepLv g.S k l xs ∧ ∀ b, (g.row id).ownBlock = some b → Mine Γ b ∧ ∀ o, g.S b o = xs[o]?
  | .stk e k ver l => ∃ xs, g.len id = ver + 1 ∧ w.ownsRow 0 e k (g.row id) l.length xs ∧ RepLv g.S k l xs ∧ ∀ b, (g.row id).ownBlock = some b → Mine Γ b ∧ ∀ o, g.S b o = none
  | .map d M => ∃ es, g.len id = 1 ∧ Mine Γ (g.blk id) ∧ MapAt w (g.blk id) es ∧ RepM g.S d M es ∧ ∀ o, g.S (g.blk id) o = none
  | .grid eo e ver rows => ∃ vs, g.len id = ver + 1 ∧ Mine Γ (g.blk id) ∧ w.heap[g.blk id]? = some (.cells vs.toArray eo (0, 0)) ∧ g.row id = .tuple vs.toArray ∧ RepG w g.S e rows vs ∧ (∀ o, g.S (g.blk id) o = none) ∧ (∀ v ∈ vs, ∀ b, v.ownBlock = some b → Mine Γ b ∧ b ≠ g.blk id ∧ ∀ o, g.S b o = none) ∧ vs.Pairwise Apart2
  | .rmap d e k M => ∃ es vs, 1 ≤ g.len id ∧ Mine Γ (g.blk id) ∧ MapAt w (g.blk id) es ∧ g.row id = .tuple vs.toArray ∧ RepR w g.S d e k M es vs ∧ (∀ o, g.S (g.blk id) o = none) ∧ (∀ v ∈ vs, ∀ b, v.ownBlock = some b → Mine Γ b ∧ b ≠ g.blk id) ∧ vs.Pairwise Apart2
  | .bld e tb l => ∃ p v, 1 ≤ g.len id ∧ Mine Γ (g.blk id) ∧ w.heap[g.blk id]? = some (.cells #[p, v] tb (0, 0)) ∧ (p = .pointer none ∨ p = .pointer (some ⟨g.blk id, 0, none⟩)) ∧ g.row id = v ∧ w.ownsRow 0 e 1 v l.length (bytV l) ∧ v.ownBlock ≠ some (g.blk id) ∧ (l = [] → v = .slice none 0 0) ∧ (∀ o, g.S (g.blk id) o = none) ∧ ∀ b, v.ownBlock = some b → Mine Γ b ∧ ∀ o, g.S b o = none
  | .frow e k ver l ts => ∃ xs ys n, g.len id = ver + 1 ∧ w.ownsRow 0 e k (g.row id) n (xs ++ ys) ∧ RepLv g.S k l xs ∧ Reps g ts ys ∧ (∀ y ∈ ys, y.oneCell' = true) ∧ ((ts = [] ∧ n = l.length) ∨ (ts.length = k ∧ n = l.length + 1)) ∧ ∀ b, (g.row id).ownBlock = some b → Mine Γ b ∧ ∀ o, g.S b o = none
  | .rdr e ts => ∃ xs b, 1 ≤ g.len id ∧ Mine Γ (g.blk id) ∧ w.heap[g.blk id]? = some (.cells (xs ++ [.bool b]).toArray e (0, 0)) ∧ Reps g ts xs ∧ (∀ x ∈ xs, x.oneCell' = true) ∧ (2 ≤ g.len id → b = true) ∧ ∀ o, g.S (g.blk id) o = none
  | .seen c => 1 ≤ g.len id ∧ 2 ≤ g.len c
structure WI (Γ : Cx) (g : Gh) (objs : Objs) (w : World) : Prop where
  imm : ∀ b o x, g.S b o = some x → w.cell? ⟨b, o, none⟩ = some x
  obj : ∀ id ob, objs id = some ob → ObjAt Γ g w id ob
  apart : ∀ i j oi oj b, objs i = some oi → objs j = some oj → oi.blk g i b → oj.blk g j b → i = j
  fr : Fr Γ w
  old : ∀ b o, b < Γ.w0.heap.size → ¬ Γ.X b → ¬ TabB Γ.w0 b → g.S b o = Γ.S0 b o
  ext : GLe Γ.A Γ.g0 g
theorem own_same {w w' : World} {e k n' : Nat} {v : Value} {xs : List Value} (h : w.ownsRow 0 e k v n' xs) (hb : ∀ b, v.ownBlock = some b → w'.heap[b]? = w.heap[b]?) : w'.ownsRow 0 e k v n' xs :=
  ⟨h.1, h.2.imp id fun ⟨g, cap, cur, e1, h1, h2, r⟩ => ⟨g, cap, cur, e1, h1, (hb g (by rw [e1]; rfl)).trans h2, r⟩⟩
theorem RepM.mono {S S' : Sm} (h : SLe S S') {d : TypeDesc} : ∀ {M : List (Value × D)} {es : List MapEntry}, RepM S d M es → RepM S' d M es
  | _, _, .nil => .nil
  | _, _, .cons hk hi h1 ht => .cons hk hi (h1.mono h) (ht.mono h)
theorem RepR.same {w w' : World} {S S' : Sm} (h : SLe S S') {d : TypeDesc} {et k : Nat} : ∀ {M : List (Value × Option (List D))} {es : List MapEntry} {vs : List Value}, RepR w S d et k M es vs →
    (∀ v ∈ vs, ∀ b, v.ownBlock = some b → w'.heap[b]? = w.heap[b]? ∧ ∀ o, S' b o = S b o) → RepR w' S' d et k M es vs
  | _, _, _, .nil, _ => .nil
  | _, _, _, .row hk hi ho hl hS ht, hv => .row hk hi (own_same ho fun b hb => (hv _ List.mem_cons_self b hb).1) (hl.mono h) (fun b hb o => ((hv _ List.mem_cons_self b hb).2 o).trans (hS b hb o)) (ht.same h fun v hm => hv v (List.mem_cons_of_mem _ hm))
  | _, _, _, .out hk hi ht, hv => .out hk hi (ht.same h fun v hm => hv v (List.mem_cons_of_mem _ hm))
theorem RepG.same {w w' : World} {S S' : Sm} (h : SLe S S') {e : TypeId} : ∀ {rows : List (List D)} {vs : List Value}, RepG w S e rows vs → (∀ v ∈ vs, ∀ b, v.ownBlock = some b → w'.heap[b]? = w.heap[b]?) → RepG w' S' e rows vs
  | _, _, .nil, _ => .nil
  | _, _, .cons ho hl ht, hv => .cons (own_same ho fun b hb => hv _ List.mem_cons_self b hb) (hl.mono h) (ht.same h fun v hm => hv v (List.mem_cons_of_mem _ hm))
theorem RepG.lt {w : World} {S : Sm} {e : TypeId} : ∀ {rows : List (List D)} {vs : List Value}, RepG w S e rows vs → ∀ v ∈ vs, ∀ b, v.ownBlock = some b → b < w.heap.size
  | _, _, .nil, v, hv, _, _ => by cases hv
  | _, _, .cons ho hl ht, v, hv, b, hb => by
    rcases List.mem_cons.1 hv with rfl | hv
    · exact (ho.lt b hb).2
    · exact ht.lt v hv b hb
theorem RepR.lt {w : World} {S : Sm} {d : TypeDesc} {et k : Nat} : ∀ {M : List (Value × Option (List D))} {es : List MapEntry} {vs : List Value}, RepR w S d et k M es vs → ∀ v ∈ vs, ∀ b, v.ownBlock = some b → b < w.heap.size
  | _, _, _, .nil, v, hv, _, _ => by cases hv
  | _, _, _, .row hk hi ho hl hS ht, v, hv, b, hb => by
    rcases List.mem_cons.1 hv with rfl | hv
    · exact (ho.lt b hb).2
    · exact ht.lt v hv b hb
  | _, _, _, .out hk hi ht, v, hv, b, hb => by
    rcases List.mem_cons.1 hv with rfl | hv
    · cases hb
    · exact ht.lt v hv b hb
theorem ObjAt.mine {Γ : Cx} {g : Gh} {w : World} {i b : Nat} {ob : GObj} (h : ObjAt Γ g w i ob) (hb : ob.blk g i b) : Mine Γ b := by
  cases ob with
  | vac => cases hb
  | gone => cases hb
  | cells _ _ => obtain ⟨_, -, a1, -⟩ := h; cases hb; exact a1
  | barr _ _ _ => obtain ⟨_, -, a1, -⟩ := h; cases hb; exact a1
  | row _ _ _ => obtain ⟨_, -, -, -, a3⟩ := h; exact (a3 b hb).1
  | stk _ _ _ _ => obtain ⟨_, -, -, -, a3⟩ := h; exact (a3 b hb).1
  | map _ _ => obtain ⟨_, -, a1, -⟩ := h; cases hb; exact a1
  | grid _ _ _ _ =>
    obtain ⟨vs, -, a1, -, a3, -, -, a6, -⟩ := h
    rcases hb with hb | ⟨v, hv, hb⟩
    · exact hb ▸ a1
    · rw [a3] at hv
      exact (a6 v (by simpa [rowsOf] using hv) b hb).1
  | rmap _ _ _ _ =>
    obtain ⟨_, vs, -, a1, -, a3, -, -, a6, -⟩ := h
    rcases hb with hb | ⟨v, hv, hb⟩
    · exact hb ▸ a1
    · rw [a3] at hv
      exact (a6 v (by simpa [rowsOf] using hv) b hb).1
  | bld _ _ _ =>
    obtain ⟨_, v, -, a1, -, -, a3, -, -, -, -, a6⟩ := h
    rcases hb with hb | hb
    · exact hb ▸ a1
    · rw [a3] at hb; exact (a6 b hb).1
  | frow _ _ _ _ _ => obtain ⟨_, _, _, -, -, -, -, -, -, a3⟩ := h; exact (a3 b hb).1
  | rdr _ _ => obtain ⟨_, _, -, a1, -⟩ := h; cases hb; exact a1
  | seen _ => cases hb
theorem ObjAt.blk_lt {Γ : Cx} {g : Gh} {w : World} {i b : Nat} {ob : GObj} (h : ObjAt Γ g w i ob) (hb : ob.blk g i b) : b < w.heap.size := by
  cases ob with
  | vac => cases hb
  | gone => cases hb
  | cells _ _ => obtain ⟨_, -, -, a2, -⟩ := h; cases hb; exact (Array.getElem?_eq_some_iff.1 a2).1
  | barr _ _ _ => obtain ⟨_, -, -, a2, -⟩ := h; cases hb; exact (Array.getElem?_eq_some_iff.1 a2).1
  | row _ _ _ => obtain ⟨_, -, a2, -⟩ := h; exact (a2.lt b hb).2
  | stk _ _ _ _ => obtain ⟨_, -, a2, -⟩ := h; exact (a2.lt b hb).2
  | map _ _ => obtain ⟨_, -, -, ⟨_, a2, -⟩, -⟩ := h; cases hb; exact (Array.getElem?_eq_some_iff.1 a2).1
  | grid _ _ _ _ =>
    obtain ⟨vs, -, -, a2, a3, a4, -, -, -⟩ := h
    rcases hb with hb | ⟨v, hv, hb⟩
    · cases hb; exact (Array.getElem?_eq_some_iff.1 a2).1
    · rw [a3] at hv
      exact a4.lt v (by simpa [rowsOf] using hv) b hb
  | rmap _ _ _ _ =>
    obtain ⟨_, vs, -, -, ⟨_, a2, -⟩, a3, a4, -⟩ := h
    rcases hb with hb | ⟨v, hv, hb⟩
    · cases hb; exact (Array.getElem?_eq_some_iff.1 a2).1
    · rw [a3] at hv
      exact a4.lt v (by simpa [rowsOf] using hv) b hb
  | bld _ _ _ =>
    obtain ⟨_, v, -, -, a2, -, a3, a4, -⟩ := h
    rcases hb with hb | hb
    · cases hb; exact (Array.getElem?_eq_some_iff.1 a2).1
    · rw [a3] at hb; exact (a4.lt b hb).2
  | frow _ _ _ _ _ => obtain ⟨_, _, _, -, a2, -⟩ := h; exact (a2.lt b hb).2
  | rdr _ _ => obtain ⟨_, _, -, -, a2, -⟩ := h; cases hb; exact (Array.getElem?_eq_some_iff.1 a2).1
  | seen _ => cases hb
/-- An object whose blocks have not turned is as it was. -/
theorem ObjAt.same {Γ : Cx} {A : Nat → Prop} {g g' : Gh} {w w' : World} {i : Nat} {ob : GObj} (h : ObjAt Γ g w i ob) (hle : GLe A g g') (hb : g'.blk i = g.blk i) (hr : g'.row i = g.row i) (hl : g'.len i = g.len i) (ha : ∀ id, ob.has id = true → A id)
    (hs : ∀ b, ob.blk g i b → w'.heap[b]? = w.heap[b]? ∧ ∀ o, g'.S b o = g.S b o) : ObjAt Γ g' w' i ob := by
  cases ob with
  | vac => show g'.len i = 0; rw [hl]; exact h
  | gone => trivial
  | cells e ts =>
    obtain ⟨xs, a0, a1, a2, a3, a4, a5⟩ := h
    obtain ⟨s1, s2⟩ := hs _ rfl
    exact ⟨xs, by rw [hl]; exact a0, by rw [hb]; exact a1, by rw [hb]; exact s1.trans a2, a3.mono hle ha, a4, fun o => by rw [hb]; exact (s2 o).trans (a5 o)⟩
  | barr e l ts =>
    obtain ⟨xs, a0, a1, a2, a3, a4, a5⟩ := h
    obtain ⟨s1, s2⟩ := hs _ rfl
    exact ⟨xs, by rw [hl]; exact a0, by rw [hb]; exact a1, by rw [hb]; exact s1.trans a2, a3.mono hle ha, a4, fun o => by rw [hb]; exact (s2 o).trans (a5 o)⟩
  | row e k l =>
    obtain ⟨xs, a0, a1, a2, a3⟩ := h
    exact ⟨xs, hl.trans a0, by rw [hr]; exact own_same a1 fun b hb => (hs b hb).1, a2.mono hle.S, fun b hbk => by rw [hr] at hbk; exact ⟨(a3 b hbk).1, fun o => ((hs b hbk).2 o).trans ((a3 b hbk).2 o)⟩⟩
  | stk e k ver l =>
    obtain ⟨xs, a0, a1, a2, a3⟩ := h
    exact ⟨xs, hl.trans a0, by rw [hr]; exact own_same a1 fun b hb => (hs b hb).1, a2.mono hle.S, fun b hbk => by rw [hr] at hbk; exact ⟨(a3 b hbk).1, fun o => ((hs b hbk).2 o).trans ((a3 b hbk).2 o)⟩⟩
  | map d M =>
    obtain ⟨es, a0, a1, ⟨c, a2, a3⟩, a4, a5⟩ := h
    obtain ⟨s1, s2⟩ := hs _ rfl
    exact ⟨es, hl.trans a0, by rw [hb]; exact a1, ⟨c, by rw [hb]; exact s1.trans a2, a3⟩, a4.mono hle.S, fun o => by rw [hb]; exact (s2 o).trans (a5 o)⟩
  | grid eo e ver rows =>
    obtain ⟨vs, a0, a1, a2, a3, a4, a5, a6, a7⟩ := h
    obtain ⟨s1, s2⟩ := hs _ (.inl rfl)
    have hk : ∀ v ∈ vs, ∀ b, v.ownBlock = some b → w'.heap[b]? = w.heap[b]? ∧ ∀ o, g'.S b o = g.S b o := fun v hv b hbk => hs b (.inr ⟨v, by rw [a3]; simpa [rowsOf] using hv, hbk⟩)
    exact ⟨vs, hl.trans a0, by rw [hb]; exact a1, by rw [hb]; exact s1.trans a2, hr.trans a3, a4.same hle.S fun v hv b hbk => (hk v hv b hbk).1, fun o => by rw [hb]; exact (s2 o).trans (a5 o), fun v hv b hbk => by rw [hb]; exact ⟨(a6 v hv b hbk).1, (a6 v hv b hbk).2.1, fun o => ((hk v hv b hbk).2 o).trans ((a6 v hv b hbk).2.2 o)⟩, a7⟩
  | rmap d e k M =>
    obtain ⟨es, vs, a0, a1, ⟨c, a2, a3⟩, a4, a5, a6, a7, a8⟩ := h
    obtain ⟨s1, s2⟩ := hs _ (.inl rfl)
    exact ⟨es, vs, by rw [hl]; exact a0, by rw [hb]; exact a1, ⟨c, by rw [hb]; exact s1.trans a2, a3⟩, hr.trans a4, a5.same hle.S fun v hv b hbk => hs b (.inr ⟨v, by rw [a4]; simpa [rowsOf] using hv, hbk⟩), fun o => by rw [hb]; exact (s2 o).trans (a6 o), fun v hv b hbk => by rw [hb]; exact a7 v hv b hbk, a8⟩
  | bld e tb l =>
    obtain ⟨p, v, a0, a1, a2, a3, a4, a5, a6, a9, a7, a8⟩ := h
    obtain ⟨s1, s2⟩ := hs _ (.inl rfl)
    have hk : ∀ b, v.ownBlock = some b → w'.heap[b]? = w.heap[b]? ∧ ∀ o, g'.S b o = g.S b o := fun b hbk => hs b (.inr (by rw [a4]; exact hbk))
    exact ⟨p, v, by rw [hl]; exact a0, by rw [hb]; exact a1, by rw [hb]; exact s1.trans a2, by rw [hb]; exact a3, hr.trans a4, own_same a5 fun b hbk => (hk b hbk).1, by rw [hb]; exact a6, a9, fun o => by rw [hb]; exact (s2 o).trans (a7 o), fun b hbk => ⟨(a8 b hbk).1, fun o => ((hk b hbk).2 o).trans ((a8 b hbk).2 o)⟩⟩
  | frow e k ver l ts =>
    obtain ⟨xs, ys, n, a0, a1, a2, a3, a4, a5, a6⟩ := h
    exact ⟨xs, ys, n, hl.trans a0, by rw [hr]; exact own_same a1 fun b hb => (hs b hb).1, a2.mono hle.S, a3.mono hle ha, a4, a5, fun b hbk => by rw [hr] at hbk; exact ⟨(a6 b hbk).1, fun o => ((hs b hbk).2 o).trans ((a6 b hbk).2 o)⟩⟩
  | rdr e ts =>
    obtain ⟨xs, bb, a0, a1, a2, a3, a4, a6, a5⟩ := h
    obtain ⟨s1, s2⟩ := hs _ rfl
    exact ⟨xs, bb, by rw [hl]; exact a0, by rw [hb]; exact a1, by rw [hb]; exact s1.trans a2, a3.mono hle ha, a4, by rw [hl]; exact a6, fun o => by rw [hb]; exact (s2 o).trans (a5 o)⟩
  | seen c =>
    obtain ⟨a0, a1⟩ := h
    exact ⟨by rw [hl]; exact a0, Nat.le_trans a1 (hle.len c (ha c (by simp [GObj.has])))⟩
theorem WI.blk_lt {Γ : Cx} {g : Gh} {objs : Objs} {w : World} (hw : WI Γ g objs w) {i : Nat} {oi : GObj} {b : Nat} (h1 : objs i = some oi) (hb : oi.blk g i b) : b < w.heap.size := (hw.obj i oi h1).blk_lt hb
theorem blk_same {g g' : Gh} {i : Nat} (hb : g'.blk i = g.blk i) (hr : g'.row i = g.row i) (ob : GObj) : ob.blk g' i = ob.blk g i := by
  cases ob <;> (funext b; simp only [GObj.blk, hb, hr])
def ovr (objs : Objs) (post : List (Nat × GObj)) : Objs := fun i => (post.lookup i).elim (objs i) some
def updT (σ : Nat → T) (dst : Option Tmp) (v : T) : Nat → T := match dst with | some d => fun t => bif Nat.beq t d then v else σ t | none => σ

/-! ### One operation -/
/-- From slots that read as σ, and objects as pre tells, o yields v, and leaves objects as post tells; nothing else turns. -/
def Tri (P : Program) (o : Oper) (σ : Nat → T) (pre : List (Nat × GObj)) (v : T) (post : List (Nat × GObj)) : Prop :=
  ∀ (Γ : Cx) (g : Gh) (objs : Objs) (a : Act) (w : World) (Q : Exit → Act → World → Prop),
    (∀ t, .tmp t ∈ o.op.operands → RepT g (σ t) (a.tmps.getD t undef)) → (∀ p ∈ pre, objs p.1 = some p.2) → WI Γ g objs w →
    o.wp P a w (fun a' w' => ∃ g' x, a' = a.put o.dst x ∧ GLe (fun _ => True) g g' ∧ RepT g' v x ∧ WI Γ g' (ovr objs post) w') Q
theorem Tri.congr {P : Program} {o : Oper} {σ σ' : Nat → T} {pre post : List (Nat × GObj)} {v : T} (h : Tri P o σ pre v post) (he : ∀ t, .tmp t ∈ o.op.operands → σ' t = σ t) : Tri P o σ' pre v post :=
  fun Γ g objs a w Q h1 h2 h3 => h Γ g objs a w Q (fun t ht => he t ht ▸ h1 t ht) h2 h3

/-! ### A row of operations -/
structure FP where
  rd : List Nat
  wr : List Nat
  new : Bool
def GuardT (ops : Array Oper) (σ : Nat → T) (o : Oper) (b : Bool) : Prop :=
  match o.guard with
  | none => b = true
  | some (j, want) => ∃ t, (ops[j]?).bind (·.dst) = some t ∧ ((∃ c, σ t = .d (.v (.bool c)) ∧ (c == want) = b) ∨ (σ t = .tup [] ∧ b = false))
def DstLt (n : Nat) (o : Oper) : Prop := ∀ d, o.dst = some d → d < n
inductive Run (P : Program) (ops : Array Oper) (n : Nat) : List (Nat × FP) → (Nat → T) → Objs → (Nat → T) → Objs → Prop
  | nil {σ : Nat → T} {objs : Objs} : Run P ops n [] σ objs σ objs
  | cons {i : Nat} {o : Oper} {σ σ' : Nat → T} {objs objs' : Objs} {pre post : List (Nat × GObj)} {v : T} {l : List (Nat × FP)} (ho : ops[i]? = some o) (hn : DstLt n o) (hg : GuardT ops σ o true) (h : Tri P o σ pre v post)
      (hp : ∀ p ∈ pre, objs p.1 = some p.2) (ht : Run P ops n l (updT σ o.dst v) (ovr objs post) σ' objs') : Run P ops n ((i, ⟨pre.map (·.1), post.map (·.1), false⟩) :: l) σ objs σ' objs'
  | skip {i : Nat} {o : Oper} {σ σ' : Nat → T} {objs objs' : Objs} {l : List (Nat × FP)} (ho : ops[i]? = some o) (hn : DstLt n o) (hg : GuardT ops σ o false)
      (ht : Run P ops n l (updT σ o.dst (.tup [])) objs σ' objs') : Run P ops n ((i, ⟨[], [], false⟩) :: l) σ objs σ' objs'
/-- What a frame and a world are, by σ and objs. -/
def Conc (Γ : Cx) (n : Nat) (σ : Nat → T) (objs : Objs) (a : Act) (w : World) : Prop :=
  a.defers = Γ.ds ∧ a.tmps.size = n ∧ ∃ g, (∀ t, RepT g (σ t) (a.tmps.getD t undef)) ∧ WI Γ g objs w

section
variable {P : Program} {ops : Array Oper} {n : Nat} {Γ : Cx} {Q : Exit → Act → World → Prop}
theorem rep_put {g : Gh} {σ : Nat → T} {a : Act} {dst : Option Tmp} {v : T} {x : Value} (h : ∀ t, RepT g (σ t) (a.tmps.getD t undef)) (hx : RepT g v x) (hd : ∀ d, dst = some d → d < a.tmps.size) : ∀ t, RepT g (updT σ dst v t) ((a.put dst x).tmps.getD t undef) := by
  intro t
  cases dst with
  | none => exact h t
  | some d =>
    have hdn := hd d rfl
    simp only [updT, Act.put]
    cases e : Nat.beq t d with
    | true =>
      obtain rfl : t = d := Nat.eq_of_beq_eq_true e
      simp only [cond_true]
      rw [Array.getD_eq_getD_getElem?, Array.getElem?_setIfInBounds_self_of_lt hdn]
      exact hx
    | false =>
      have hne : d ≠ t := fun e2 => by subst e2; rw [Nat.beq_refl] at e; cases e
      simp only [cond_false]
      rw [Array.getD_eq_getD_getElem?, Array.getElem?_setIfInBounds_ne hne, ← Array.getD_eq_getD_getElem?]
      exact h t
theorem put_size (a : Act) (dst : Option Tmp) (x : Value) : (a.put dst x).tmps.size = a.tmps.size := by cases dst <;> simp [Act.put]
theorem put_defers (a : Act) (dst : Option Tmp) (x : Value) : (a.put dst x).defers = a.defers := by cases dst <;> rfl
theorem GuardT.wanted {g : Gh} {σ : Nat → T} {a : Act} {o : Oper} {b : Bool} (h : GuardT ops σ o b) (hr : ∀ t, RepT g (σ t) (a.tmps.getD t undef)) : Region.wanted o (yielded ops a.tmps) = b := by
  unfold GuardT at h
  unfold Region.wanted
  cases hg : o.guard with
  | none => rw [hg] at h; exact h.symm
  | some x =>
    obtain ⟨j, want⟩ := x
    rw [hg] at h
    obtain ⟨t, h1, h0⟩ := h
    have hrt := hr t
    show (yielded ops a.tmps j == some want) = b
    rcases h0 with ⟨c, h2, h3⟩ | ⟨h2, h3⟩
    · rw [h2] at hrt
      cases hrt with
      | d h4 =>
        generalize hy : a.tmps.getD t undef = y at h4
        cases h4
        have h5 : a.tmps[t]? = some (.bool c) := by
          rw [Array.getD_eq_getD_getElem?] at hy
          cases h6 : a.tmps[t]? with
          | none => rw [h6] at hy; cases hy
          | some z => rw [h6] at hy; simpa using hy
        unfold yielded
        rw [h1]
        simp only [Option.bind_some, h5]
        rw [← h3]
        cases c <;> cases want <;> rfl
    · rw [h2] at hrt
      generalize hy : a.tmps.getD t undef = y at hrt
      cases hrt with
      | tup h4 =>
        cases h4
        subst h3
        unfold yielded
        rw [h1]
        simp only [Option.bind_some]
        rw [Array.getD_eq_getD_getElem?] at hy
        cases h6 : a.tmps[t]? with
        | none => rfl
        | some z =>
          rw [h6] at hy
          have : z = .tuple #[] := by simpa using hy
          subst this
          rfl
theorem Conc.put {σ : Nat → T} {objs' : Objs} {a : Act} {w' : World} {g' : Gh} {dst : Option Tmp} {v : T} {x : Value} {n : Nat} (hd : a.defers = Γ.ds) (hs : a.tmps.size = n) (hr : ∀ t, RepT g' (σ t) (a.tmps.getD t undef)) (hx : RepT g' v x) (hn : ∀ d, dst = some d → d < n)
    (hw : WI Γ g' objs' w') : Conc Γ n (updT σ dst v) objs' (a.put dst x) w' :=
  ⟨by rw [put_defers, hd], by rw [put_size, hs], g', rep_put hr hx (fun d e => hs ▸ hn d e), hw⟩

/-- One behind the other. -/
theorem run_seq {l : List (Nat × FP)} {σ σ' : Nat → T} {objs objs' : Objs} (h : Run P ops n l σ objs σ' objs') : ∀ {a : Act} {w : World}, Conc Γ n σ objs a w →
    (∀ a' w', Conc Γ n σ' objs' a' w' → Q .normal a' w') → wpOps P ops Q (l.map (·.1)) a w := by
  induction h with
  | nil => intro a w hc hq; exact hq _ _ hc
  | @cons i o σ σ' objs objs' pre post v l ho hn hg h hp ht ih =>
    intro a w hc hq
    obtain ⟨hd, hs, g, hr, hw⟩ := hc
    rw [List.map_cons, wpOps_cons]
    unfold wpOp
    rw [ho]
    simp only
    rw [hg.wanted hr, if_pos rfl]
    refine .inl (Oper.wp_mono (fun a' w' h1 => ?_) (h Γ g objs a w Q (fun t _ => hr t) hp hw))
    obtain ⟨g', x, rfl, hle, hx, hw'⟩ := h1
    exact ih (Conc.put hd hs (fun t => (hr t).mono hle fun _ _ => trivial) hx hn hw') hq
  | @skip i o σ σ' objs objs' l ho hn hg ht ih =>
    intro a w hc hq
    obtain ⟨hd, hs, g, hr, hw⟩ := hc
    rw [List.map_cons, wpOps_cons]
    unfold wpOp
    rw [ho]
    simp only
    rw [hg.wanted hr, if_neg (by simp)]
    exact ih (Conc.put hd hs hr (.tup .nil) hn hw) hq
theorem wp_seq_region {rid : Nat} {l : List (Nat × FP)} {σ σ' : Nat → T} {objs objs' : Objs} {a : Act} {w : World} (h : Run P ops n l σ objs σ' objs') (hl : l.map (·.1) = List.range ops.size) (hc : Conc Γ n σ objs a w)
    (hq : ∀ a' w', Conc Γ n σ' objs' a' w' → Q .normal a' w') : (Code.region rid ops false).wp P Q a w :=
  wp_region (hl ▸ run_seq h hc hq)

/-! ### In whatever order -/
def apartB (ops : Array Oper) (i j : Nat) : Bool := match ops[i]?, ops[j]? with | some x, some y => x.apart ops y | _, _ => false
def indep (ops : Array Oper) (x y : Nat × FP) : Bool :=
  apartB ops x.1 y.1 && ((x.2.wr.all fun i => !(y.2.rd.contains i) && !(y.2.wr.contains i)) && ((y.2.wr.all fun i => !(x.2.rd.contains i)) && (!x.2.new && !y.2.new)))
theorem apart_get {i j : Nat} {x y : Oper} (hi : ops[i]? = some x) (hj : ops[j]? = some y) (h : apartB ops i j = true) : x.apart ops y = true := by
  unfold apartB at h; rw [hi, hj] at h; exact h
theorem updT_comm (σ : Nat → T) {x y : Option Tmp} (v u : T) (h : ∀ d, x = some d → y ≠ some d) : updT (updT σ x v) y u = updT (updT σ y u) x v := by
  cases x with
  | none => rfl
  | some d =>
    cases y with
    | none => rfl
    | some e =>
      funext t
      simp only [updT]
      cases h1 : Nat.beq t e with
      | false => rfl
      | true =>
        cases h2 : Nat.beq t d with
        | false => rfl
        | true => exact absurd (by rw [← Nat.eq_of_beq_eq_true h1, ← Nat.eq_of_beq_eq_true h2]) (h d rfl)
theorem updT_ne {σ : Nat → T} {x : Option Tmp} {v : T} {t : Nat} (h : x ≠ some t) : updT σ x v t = σ t := by
  cases x with
  | none => rfl
  | some d =>
    simp only [updT]
    cases h1 : Nat.beq t d with
    | false => rfl
    | true => exact absurd (by rw [Nat.eq_of_beq_eq_true h1]) h
theorem ovr_ne {objs : Objs} {post : List (Nat × GObj)} {i : Nat} (h : (post.map (·.1)).contains i = false) : ovr objs post i = objs i := by
  unfold ovr
  have : post.lookup i = none := by
    rw [List.lookup_eq_none_iff]
    intro p hp
    rw [List.contains_eq_mem, decide_eq_false_iff_not] at h
    have hne : i ≠ p.1 := fun e => h (by rw [e]; exact List.mem_map.2 ⟨p, hp, rfl⟩)
    simpa using hne
  rw [this]; rfl
theorem ovr_comm (objs : Objs) {p q : List (Nat × GObj)} (h : ∀ i ∈ p.map (·.1), (q.map (·.1)).contains i = false) : ovr (ovr objs p) q = ovr (ovr objs q) p := by
  funext i
  by_cases hi : i ∈ p.map (·.1)
  · rw [ovr_ne (h i hi)]
    unfold ovr
    cases hl : p.lookup i with
    | none =>
      exfalso
      obtain ⟨x, hx, rfl⟩ := List.mem_map.1 hi
      have := List.lookup_eq_none_iff.1 hl x hx
      simp at this
    | some o => rfl
  · have hp : (p.map (·.1)).contains i = false := by rw [List.contains_eq_mem, decide_eq_false_iff_not]; exact hi
    rw [ovr_ne (objs := ovr objs q) hp]
    unfold ovr
    cases q.lookup i with
    | none => exact ovr_ne hp
    | some o => rfl
theorem pre_ovr {objs : Objs} {pre post : List (Nat × GObj)} (h : ∀ p ∈ pre, objs p.1 = some p.2) (hd : (post.map (·.1)).all (fun i => !((pre.map (·.1)).contains i)) = true) : ∀ p ∈ pre, ovr objs post p.1 = some p.2 := by
  intro p hp
  rw [ovr_ne]
  · exact h p hp
  · rw [List.contains_eq_mem, decide_eq_false_iff_not]
    intro hm
    have := List.all_eq_true.1 hd p.1 hm
    simp only [Bool.not_eq_true', List.contains_eq_mem, decide_eq_false_iff_not] at this
    exact this (List.mem_map.2 ⟨p, hp, rfl⟩)
theorem pre_back {objs : Objs} {pre post : List (Nat × GObj)} (h : ∀ p ∈ pre, ovr objs post p.1 = some p.2) (hd : (post.map (·.1)).all (fun i => !((pre.map (·.1)).contains i)) = true) : ∀ p ∈ pre, objs p.1 = some p.2 := by
  intro p hp
  have := h p hp
  rwa [ovr_ne] at this
  rw [List.contains_eq_mem, decide_eq_false_iff_not]
  intro hm
  have := List.all_eq_true.1 hd p.1 hm
  simp only [Bool.not_eq_true', List.contains_eq_mem, decide_eq_false_iff_not] at this
  exact this (List.mem_map.2 ⟨p, hp, rfl⟩)
theorem looks_op {o : Oper} {t : Tmp} (h : .tmp t ∈ o.op.operands) : t ∈ o.looksAt ops := List.mem_append_left _ (List.mem_filterMap.2 ⟨.tmp t, by simpa using h, rfl⟩)
theorem Tri.upd {o : Oper} {σ : Nat → T} {pre post : List (Nat × GObj)} {v : T} {x : Option Tmp} {u : T} (hx : ∀ d, x = some d → d ∉ o.looksAt ops) : Tri P o (updT σ x u) pre v post ↔ Tri P o σ pre v post :=
  ⟨fun h => h.congr fun t ht => (updT_ne fun e => hx t e (looks_op ht)).symm, fun h => h.congr fun t ht => updT_ne fun e => hx t e (looks_op ht)⟩
theorem GuardT.upd {o : Oper} {σ : Nat → T} {b : Bool} {x : Option Tmp} {u : T} (hx : ∀ d, x = some d → d ∉ o.looksAt ops) : GuardT ops (updT σ x u) o b ↔ GuardT ops σ o b := by
  unfold GuardT
  cases hg : o.guard with
  | none => exact Iff.rfl
  | some p =>
    obtain ⟨j, want⟩ := p
    have key : ∀ t, (ops[j]?).bind (·.dst) = some t → updT σ x u t = σ t := fun t ht => updT_ne fun e => hx t e (by simp [Oper.looksAt, hg, ht])
    constructor
    · rintro ⟨t, h1, h2⟩; exact ⟨t, h1, by rw [← key t h1]; exact h2⟩
    · rintro ⟨t, h1, h2⟩; exact ⟨t, h1, by rw [key t h1]; exact h2⟩

theorem ovr_nil (objs : Objs) : ovr objs [] = objs := rfl
theorem run_pick {x : Nat × FP} {l2 : List (Nat × FP)} (hx : x.2.new = false) : ∀ {l1 : List (Nat × FP)} {σ σ' : Nat → T} {objs objs' : Objs}, Run P ops n (l1 ++ x :: l2) σ objs σ' objs' → (∀ y ∈ l1, indep ops y x = true) →
    ∃ pi po, x.2.rd = pi ∧ x.2.wr = po ∧ ((∃ (o : Oper) (pre post : List (Nat × GObj)) (v : T), ops[x.1]? = some o ∧ DstLt n o ∧ GuardT ops σ o true ∧ Tri P o σ pre v post ∧ (∀ p ∈ pre, objs p.1 = some p.2) ∧ pre.map (·.1) = pi ∧ post.map (·.1) = po ∧ Run P ops n (l1 ++ l2) (updT σ o.dst v) (ovr objs post) σ' objs') ∨
      (∃ o : Oper, ops[x.1]? = some o ∧ DstLt n o ∧ GuardT ops σ o false ∧ pi = [] ∧ po = [] ∧ Run P ops n (l1 ++ l2) (updT σ o.dst (.tup [])) objs σ' objs')) := by
  intro l1
  induction l1 with
  | nil =>
    intro σ σ' objs objs' h _
    rw [List.nil_append] at h ⊢
    refine ⟨_, _, rfl, rfl, ?_⟩
    cases h with
    | cons ho hn hg h hp ht => exact .inl ⟨_, _, _, _, ho, hn, hg, h, hp, rfl, rfl, ht⟩
    | skip ho hn hg ht => exact .inr ⟨_, ho, hn, hg, rfl, rfl, ht⟩
  | cons y l1 ih =>
    intro σ σ' objs objs' h hi
    have hyx := hi y List.mem_cons_self
    unfold indep at hyx
    simp only [Bool.and_eq_true] at hyx
    obtain ⟨hap, hw1, hw2, hnew, -⟩ := hyx
    rw [List.cons_append] at h
    cases h with
    | @cons i oy _ _ _ _ pre post v _ ho hn hg h hp ht =>
      obtain ⟨pi, po, e1, e2, hr⟩ := ih ht fun z hz => hi z (List.mem_cons_of_mem _ hz)
      refine ⟨pi, po, e1, e2, ?_⟩
      rw [e1, e2] at hw1
      rw [e2] at hw2
      rcases hr with ⟨o, pre2, post2, v2, ho2, hn2, hg2, h2, hp2, e3, e4, ht2⟩ | ⟨o, ho2, hn2, hg2, e3, e4, ht2⟩
      · have ha := Oper.apart_spec (apart_get ho ho2 hap)
        obtain ⟨a1, a2, a3⟩ := ha
        subst e3 e4
        refine .inl ⟨o, pre2, post2, v2, ho2, hn2, (GuardT.upd a1).1 hg2, (Tri.upd (ops := ops) a1).1 h2, pre_back hp2 ?_, rfl, rfl, ?_⟩
        · rw [List.all_eq_true] at hw1 ⊢
          intro k hk
          have := hw1 k hk
          rw [Bool.and_eq_true] at this
          exact this.1
        · rw [List.cons_append]
          refine .cons ho hn ((GuardT.upd a3).2 hg) ((Tri.upd (ops := ops) a3).2 h) (pre_ovr hp ?_) ?_
          · exact hw2
          · rw [updT_comm σ v2 v fun d e => fun e' => a2 d e' e, ovr_comm objs (p := post2) (q := post)]
            · exact ht2
            · intro k hk
              have : ∀ m ∈ post.map (·.1), k ≠ m := fun m hm e => by
                have := List.all_eq_true.1 hw1 m hm
                rw [Bool.and_eq_true, Bool.not_eq_true', Bool.not_eq_true', List.contains_eq_mem, List.contains_eq_mem, decide_eq_false_iff_not, decide_eq_false_iff_not] at this
                exact this.2 (e ▸ hk)
              rw [List.contains_eq_mem, decide_eq_false_iff_not]
              exact fun hm => this k hm rfl
      · have ha := Oper.apart_spec (apart_get ho ho2 hap)
        obtain ⟨a1, a2, a3⟩ := ha
        refine .inr ⟨o, ho2, hn2, (GuardT.upd a1).1 hg2, e3, e4, ?_⟩
        rw [List.cons_append]
        refine .cons ho hn ((GuardT.upd a3).2 hg) ((Tri.upd (ops := ops) a3).2 h) hp ?_
        rw [updT_comm σ (.tup []) v fun d e => fun e' => a2 d e' e]
        exact ht2
    | @skip i oy _ _ _ _ _ ho hn hg ht =>
      obtain ⟨pi, po, e1, e2, hr⟩ := ih ht fun z hz => hi z (List.mem_cons_of_mem _ hz)
      refine ⟨pi, po, e1, e2, ?_⟩
      rcases hr with ⟨o, pre2, post2, v2, ho2, hn2, hg2, h2, hp2, e3, e4, ht2⟩ | ⟨o, ho2, hn2, hg2, e3, e4, ht2⟩
      · obtain ⟨a1, a2, a3⟩ := Oper.apart_spec (apart_get ho ho2 hap)
        refine .inl ⟨o, pre2, post2, v2, ho2, hn2, (GuardT.upd a1).1 hg2, (Tri.upd (ops := ops) a1).1 h2, hp2, e3, e4, ?_⟩
        rw [List.cons_append]
        refine .skip ho hn ((GuardT.upd a3).2 hg) ?_
        rw [updT_comm σ v2 (.tup []) fun d e => fun e' => a2 d e' e]
        exact ht2
      · obtain ⟨a1, a2, a3⟩ := Oper.apart_spec (apart_get ho ho2 hap)
        refine .inr ⟨o, ho2, hn2, (GuardT.upd a1).1 hg2, e3, e4, ?_⟩
        rw [List.cons_append]
        refine .skip ho hn ((GuardT.upd a3).2 hg) ?_
        rw [updT_comm σ (.tup []) (.tup []) fun d e => fun e' => a2 d e' e]
        exact ht2

/-- j waits for i, by a few steps at most. -/
def reachB (ops : Array Oper) : Nat → Nat → Nat → Bool
  | 0, _, _ => false
  | f + 1, j, i => match ops[j]? with
    | none => false
    | some o => o.after.toList.any fun e => Region.binds .any e && (e.on == i || reachB ops f e.on i)
theorem reach_listed {listed : Array Bool} (hdown : ∀ j oj, ops[j]? = some oj → listed.getD j false = true → ∀ e ∈ oj.after, Region.binds .any e = true → listed.getD e.on false = true) :
    ∀ (f j i : Nat) (oj : Oper), ops[j]? = some oj → (∀ e ∈ oj.after, Region.binds .any e = true → listed.getD e.on false = true) → reachB ops f j i = true → listed.getD i false = true
  | 0, _, _, _, _, _, h => by cases h
  | f + 1, j, i, oj, hj, hall, h => by
    unfold reachB at h
    rw [hj] at h
    simp only [List.any_eq_true, Bool.and_eq_true, Bool.or_eq_true, beq_iff_eq] at h
    obtain ⟨e, he, hb, h1⟩ := h
    have hl := hall e (Array.mem_toList_iff.1 he) hb
    rcases h1 with h1 | h1
    · exact h1 ▸ hl
    · cases ho : ops[e.on]? with
      | none => cases f <;> simp [reachB, ho] at h1
      | some o2 => exact reach_listed hdown f e.on i o2 ho (hdown e.on o2 ho hl) h1
def orderB (ops : Array Oper) : List (Nat × FP) → Bool
  | [] => true
  | x :: l => (!x.2.new) && ((match ops[x.1]? with | none => false | some o => o.after.toList.all fun e => !Region.binds .any e || Nat.blt e.on x.1) && ((l.all fun y => Nat.blt x.1 y.1 && (indep ops x y || reachB ops 4 y.1 x.1)) && orderB ops l))
theorem orderB_mem : ∀ {l : List (Nat × FP)}, orderB ops l = true → ∀ l1 x l2, l = l1 ++ x :: l2 → x.2.new = false ∧ (∀ y ∈ l1, y.1 < x.1 ∧ (indep ops y x = true ∨ reachB ops 4 x.1 y.1 = true)) ∧ (∀ y ∈ l2, x.1 < y.1)
  | [], _, l1, x, l2, e => by simp at e
  | z :: l, h, [], x, l2, e => by
    rw [List.nil_append] at e
    cases e
    unfold orderB at h
    simp only [Bool.and_eq_true] at h
    refine ⟨by simpa using h.1, by simp, fun y hy => ?_⟩
    have := List.all_eq_true.1 h.2.2.1 y hy
    rw [Bool.and_eq_true] at this
    exact Nat.le_of_ble_eq_true this.1
  | z :: l, h, y :: l1, x, l2, e => by
    rw [List.cons_append] at e
    cases e
    unfold orderB at h
    simp only [Bool.and_eq_true] at h
    obtain ⟨h1, h2, h3, h4⟩ := h
    obtain ⟨k1, k2, k3⟩ := orderB_mem h4 l1 x l2 rfl
    refine ⟨k1, fun y' hy' => ?_, k3⟩
    rcases List.mem_cons.1 hy' with rfl | hy'
    · have := List.all_eq_true.1 h3 x (by simp)
      rw [Bool.and_eq_true, Bool.or_eq_true] at this
      exact ⟨Nat.le_of_ble_eq_true this.1, this.2⟩
    · exact k2 y' hy'
theorem orderB_del : ∀ {l1 l2 : List (Nat × FP)} {x : Nat × FP}, orderB ops (l1 ++ x :: l2) = true → orderB ops (l1 ++ l2) = true
  | [], _, _, h => by
    rw [List.nil_append] at h ⊢
    unfold orderB at h
    simp only [Bool.and_eq_true] at h
    exact h.2.2.2
  | y :: l1, l2, x, h => by
    rw [List.cons_append] at h ⊢
    unfold orderB at h ⊢
    simp only [Bool.and_eq_true] at h ⊢
    obtain ⟨h1, h2, h3, h4⟩ := h
    refine ⟨h1, h2, ?_, orderB_del h4⟩
    rw [List.all_eq_true] at h3 ⊢
    intro z hz
    exact h3 z (by rcases List.mem_append.1 hz with hz | hz <;> simp [hz])
theorem orderB_first {x : Nat × FP} {l : List (Nat × FP)} (h : orderB ops (x :: l) = true) : ∃ o, ops[x.1]? = some o ∧ ∀ e ∈ o.after, Region.binds .any e = true → e.on < x.1 := by
  unfold orderB at h
  simp only [Bool.and_eq_true] at h
  obtain ⟨-, h2, -⟩ := h
  cases ho : ops[x.1]? with
  | none => rw [ho] at h2; cases h2
  | some o =>
    rw [ho] at h2
    refine ⟨o, rfl, fun e he hb => ?_⟩
    have := List.all_eq_true.1 h2 e (Array.mem_toList_iff.2 he)
    rw [hb] at this
    exact (by simpa using this : e.on < x.1)
theorem run_any : ∀ (m : Nat) (l : List (Nat × FP)) (listed : Array Bool) (σ σ' : Nat → T) (objs objs' : Objs) (a : Act) (w : World), l.length = m → orderB ops l = true → listed.size = ops.size →
    (∀ i, i < ops.size → (listed.getD i true = false ↔ i ∈ l.map (·.1))) →
    (∀ j oj, ops[j]? = some oj → listed.getD j false = true → ∀ e ∈ oj.after, Region.binds .any e = true → listed.getD e.on false = true) →
    Run P ops n l σ objs σ' objs' → Conc Γ n σ objs a w → (∀ a' w', Conc Γ n σ' objs' a' w' → Q .normal a' w') → wpAny P .any ops Q m listed a w := by
  intro m
  induction m with
  | zero =>
    intro l listed σ σ' objs objs' a w hl hB hsz hL hdown hrun hc hq
    obtain rfl := List.length_eq_zero_iff.1 hl
    cases hrun
    refine ⟨?_, hq _ _ hc⟩
    apply List.eq_nil_iff_forall_not_mem.2
    intro j hj
    obtain ⟨h1, o, ho, -⟩ := mem_ready.1 hj
    have := (hL j (Array.getElem?_eq_some_iff.1 ho).1).1 h1
    simp at this
  | succ m ih =>
    intro l listed σ σ' objs objs' a w hl hB hsz hL hdown hrun hc hq
    refine ⟨fun hemp => ?_, fun i hi => ?_⟩
    · exfalso
      match l, hl with
      | x :: l, hl =>
        obtain ⟨o, ho, hlt⟩ := orderB_first hB
        have hxs := (Array.getElem?_eq_some_iff.1 ho).1
        have : x.1 ∈ Region.ready .any ops listed := by
          refine mem_ready.2 ⟨(hL x.1 hxs).2 (by simp), o, ho, fun e he hb => ?_⟩
          have h1 := hlt e he hb
          have h2 : e.on < ops.size := by omega
          cases h3 : listed.getD e.on true with
          | true =>
            rw [Array.getD_eq_getD_getElem?] at h3 ⊢
            rw [Array.getElem?_eq_getElem (by omega)] at h3 ⊢
            exact h3
          | false =>
            exfalso
            obtain ⟨y, hy, e1⟩ := List.mem_map.1 ((hL e.on h2).1 h3)
            rcases List.mem_cons.1 hy with rfl | hy
            · omega
            · have := (orderB_mem hB [] x l rfl).2.2 y hy
              omega
        rw [hemp] at this
        cases this
    · obtain ⟨h1, o, ho, hall⟩ := mem_ready.1 hi
      have his := (Array.getElem?_eq_some_iff.1 ho).1
      obtain ⟨x, hx, rfl⟩ := List.mem_map.1 ((hL i his).1 h1)
      obtain ⟨l1, l2, rfl⟩ := List.append_of_mem hx
      obtain ⟨k1, k2, k3⟩ := orderB_mem hB l1 x l2 rfl
      have hind : ∀ y ∈ l1, indep ops y x = true := fun y hy => by
        rcases (k2 y hy).2 with h | h
        · exact h
        · exfalso
          have h2 := reach_listed hdown 4 x.1 y.1 o ho hall h
          have hlt := (k2 y hy).1
          have h3 := (hL y.1 (by omega)).2 (List.mem_map.2 ⟨y, by simp [hy], rfl⟩)
          rw [Array.getD_eq_getD_getElem?] at h2 h3
          rw [Array.getElem?_eq_getElem (by omega)] at h2 h3
          simp only [Option.getD_some] at h2 h3
          rw [h2] at h3
          cases h3
      have hL' : ∀ j, j < ops.size → ((listed.setIfInBounds x.1 true).getD j true = false ↔ j ∈ (l1 ++ l2).map (·.1)) := by
        intro j hj
        by_cases hjx : x.1 = j
        · subst hjx
          refine ⟨fun h => ?_, fun h => ?_⟩
          · rw [Array.getD_eq_getD_getElem?, Array.getElem?_setIfInBounds_self_of_lt (by omega)] at h
            cases h
          · exfalso
            obtain ⟨y, hy, e1⟩ := List.mem_map.1 h
            rcases List.mem_append.1 hy with hy | hy
            · have := (k2 y hy).1; omega
            · have := k3 y hy; omega
        · rw [getD_set_ne true hjx, hL j hj]
          simp only [List.map_append, List.map_cons, List.mem_append, List.mem_cons]
          constructor
          · rintro (h | h | h)
            · exact .inl h
            · exact absurd h.symm hjx
            · exact .inr h
          · rintro (h | h)
            · exact .inl h
            · exact .inr (.inr h)
      have hdown' : ∀ j oj, ops[j]? = some oj → (listed.setIfInBounds x.1 true).getD j false = true → ∀ e ∈ oj.after, Region.binds .any e = true → (listed.setIfInBounds x.1 true).getD e.on false = true := by
        intro j oj hj hlj e he hb
        by_cases hjx : x.1 = j
        · subst hjx
          rw [ho] at hj
          cases hj
          exact getD_set_true (hall e he hb)
        · rw [getD_set_ne false hjx] at hlj
          exact getD_set_true (hdown j oj hj hlj e he hb)
      have hlen : (l1 ++ l2).length = m := by simp at hl ⊢; omega
      obtain ⟨hd, hs, g, hr, hw⟩ := hc
      obtain ⟨_, _, -, -, hp⟩ := run_pick k1 hrun hind
      unfold wpOp
      rw [ho]
      simp only
      rcases hp with ⟨o', pre, post, v, ho', hn, hg, h, hpre, -, -, ht⟩ | ⟨o', ho', hn, hg, -, -, ht⟩
      · rw [ho] at ho'; cases ho'
        rw [hg.wanted hr, if_pos rfl]
        refine .inl (Oper.wp_mono (fun a' w' h1 => ?_) (h Γ g objs a w Q (fun t _ => hr t) hpre hw))
        obtain ⟨g', y, rfl, hle, hy, hw'⟩ := h1
        exact ih (l1 ++ l2) _ _ _ _ _ _ _ hlen (orderB_del hB) (by simp [hsz]) hL' hdown' ht (Conc.put hd hs (fun t => (hr t).mono hle fun _ _ => trivial) hy hn hw') hq
      · rw [ho] at ho'; cases ho'
        rw [hg.wanted hr, if_neg (by simp)]
        exact ih (l1 ++ l2) _ _ _ _ _ _ _ hlen (orderB_del hB) (by simp [hsz]) hL' hdown' ht (Conc.put hd hs hr (.tup .nil) hn hw) hq
theorem wp_any_region {rid : Nat} {l : List (Nat × FP)} {σ σ' : Nat → T} {objs objs' : Objs} {a : Act} {w : World} (hm : P.follows .mixedOrders = true) (h : Run P ops n l σ objs σ' objs') (hl : l.map (·.1) = List.range ops.size) (hB : orderB ops l = true)
    (hc : Conc Γ n σ objs a w) (hq : ∀ a' w', Conc Γ n σ' objs' a' w' → Q .normal a' w') : (Code.region rid ops true).wp P Q a w := by
  refine wp_region_any hm ?_
  have hlen : l.length = ops.size := by have := congrArg List.length hl; simpa using this
  have hc' : Conc Γ n σ objs a { w with drawn := w.drawn + 1 } := by
    obtain ⟨hd, hs, g, hr, hw⟩ := hc
    refine ⟨hd, hs, g, hr, ⟨fun b o x h => hw.imm b o x h, fun id ob h => ?_, hw.apart, ⟨hw.fr.os, hw.fr.tape, hw.fr.output, hw.fr.size, hw.fr.block⟩, hw.old, hw.ext⟩⟩
    exact (hw.obj id ob h).same (GLe.refl (fun _ => True) g) rfl rfl rfl (fun _ _ => trivial) fun b hb => ⟨rfl, fun _ => rfl⟩
  refine run_any ops.size l _ σ σ' objs objs' a _ hlen hB (by simp) (fun i hi => ?_) (fun j oj hj hlj => ?_) h hc' hq
  · rw [hl]
    simp [hi]
  · exfalso
    have := (Array.getElem?_eq_some_iff.1 hj).1
    simp [this] at hlj
end
end Go.Proofs.YtngklbnodknadaaGreatDoor
end
