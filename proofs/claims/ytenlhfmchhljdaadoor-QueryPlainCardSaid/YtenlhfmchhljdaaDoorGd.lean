/-
  Ghost data: values as trees, what in memory never turns again, and what may.
-/
import Derived.Test.YtenlhfmchhljdaaDoorMem
namespace Go.Proofs.YtenlhfmchhljdaaDoor
open Go.RowKit

/-! ### Data -/
/-- Data that never turns: a value of one cell; a struct as its cells; a slice, k cells an element. -/
inductive D where
  | v (x : Value)
  | agg (l : List D)
  | sl (k : Nat) (l : List D)
instance : Inhabited D := ⟨.v undef⟩
/-- The cells of one. -/
def D.lv : D → List D
  | .agg l => l
  | d => [d]
/-- What is known of memory for good: of a block and a place the cell. -/
abbrev Sm := Nat → Nat → Option Value
def SLe (S S' : Sm) : Prop := ∀ b o x, S b o = some x → S' b o = some x
theorem SLe.refl (S : Sm) : SLe S S := fun _ _ _ h => h
theorem SLe.trans {S S' S'' : Sm} (h : SLe S S') (h' : SLe S' S'') : SLe S S'' := fun _ _ _ e => h' _ _ _ (h _ _ _ e)
def RowS (S : Sm) (p : Option Addr) (xs : List Value) : Prop := ∃ b off, (0 < xs.length → p = some ⟨b, off, none⟩) ∧ ∀ i, i < xs.length → S b (off + i) = xs[i]?
theorem RowS.mono {S S' : Sm} {p : Option Addr} {xs : List Value} (h : SLe S S') (hr : RowS S p xs) : RowS S' p xs := by
  obtain ⟨b, off, h1, h2⟩ := hr
  refine ⟨b, off, h1, fun i hi => ?_⟩
  have := h2 i hi
  rw [List.getElem?_eq_getElem hi] at this ⊢
  exact h _ _ _ this
theorem RowS.nil (S : Sm) (p : Option Addr) : RowS S p [] := ⟨0, 0, fun h => by simp at h, fun i h => by simp at h⟩

mutual
inductive RepD (S : Sm) : D → Value → Prop
  | v {x : Value} (h : x.oneCell' = true) : RepD S (.v x) x
  | agg {l : List D} {xs : List Value} (h : RepDs S l xs) : RepD S (.agg l) (.agg xs.toArray)
  | sl {k : Nat} {l : List D} {p : Option Addr} {cap : Nat} {xs : List Value} (h : RepLv S k l xs) (hr : RowS S p xs) (hc : l.length ≤ cap) (hb : cap ≤ 9223372036854775807) (hn : p = none → cap = 0) : RepD S (.sl k l) (.slice p l.length cap)
inductive RepDs (S : Sm) : List D → List Value → Prop
  | nil : RepDs S [] []
  | cons {d : D} {l : List D} {x : Value} {xs : List Value} (h : RepD S d x) (h1 : x.oneCell' = true) (ht : RepDs S l xs) : RepDs S (d :: l) (x :: xs)
inductive RepLv (S : Sm) : Nat → List D → List Value → Prop
  | nil {k : Nat} : RepLv S k [] []
  | cons {k : Nat} {d : D} {l : List D} {xs ys : List Value} (h : RepDs S d.lv xs) (hk : xs.length = k) (ht : RepLv S k l ys) : RepLv S k (d :: l) (xs ++ ys)
end

mutual
theorem RepD.mono {S S' : Sm} (h : SLe S S') : ∀ {d : D} {v : Value}, RepD S d v → RepD S' d v
  | _, _, .v h1 => .v h1
  | _, _, .agg h1 => .agg (RepDs.mono h h1)
  | _, _, .sl h1 hr hc hb hn => .sl (RepLv.mono h h1) (hr.mono h) hc hb hn
theorem RepDs.mono {S S' : Sm} (h : SLe S S') : ∀ {l : List D} {xs : List Value}, RepDs S l xs → RepDs S' l xs
  | _, _, .nil => .nil
  | _, _, .cons h1 h2 ht => .cons (RepD.mono h h1) h2 (RepDs.mono h ht)
theorem RepLv.mono {S S' : Sm} (h : SLe S S') : ∀ {k : Nat} {l : List D} {xs : List Value}, RepLv S k l xs → RepLv S' k l xs
  | _, _, _, .nil => .nil
  | _, _, _, .cons h1 hk ht => .cons (RepDs.mono h h1) hk (RepLv.mono h ht)
end
section
variable {S : Sm}
theorem RepDs.len {l : List D} {xs : List Value} (h : RepDs S l xs) : xs.length = l.length := by
  cases h with
  | nil => rfl
  | cons h1 h2 ht => rw [List.length_cons, List.length_cons, ht.len]
theorem RepDs.at_ {l : List D} {xs : List Value} (h : RepDs S l xs) {i : Nat} {d : D} (hi : l[i]? = some d) : ∃ x, xs[i]? = some x ∧ RepD S d x ∧ x.oneCell' = true := by
  cases h with
  | nil => simp at hi
  | @cons d' l' x xs' h1 h2 ht =>
    cases i with
    | zero => simp at hi; subst hi; exact ⟨_, rfl, h1, h2⟩
    | succ i => simpa using ht.at_ (by simpa using hi)
theorem RepDs.one {l : List D} {xs : List Value} (h : RepDs S l xs) : ∀ x ∈ xs, x.oneCell' = true := by
  cases h with
  | nil => simp
  | cons h1 h2 ht => intro x hx; rcases List.mem_cons.1 hx with rfl | hx; exact h2; exact ht.one x hx
theorem RepDs.app {l m : List D} {xs ys : List Value} (h : RepDs S l xs) (h' : RepDs S m ys) : RepDs S (l ++ m) (xs ++ ys) := by
  cases h with
  | nil => exact h'
  | cons h1 h2 ht => exact .cons h1 h2 (ht.app h')
theorem RepDs.drop {l : List D} {xs : List Value} (h : RepDs S l xs) (n : Nat) : RepDs S (l.drop n) (xs.drop n) := by
  cases n with
  | zero => simpa using h
  | succ n =>
    cases h with
    | nil => simpa using RepDs.nil
    | cons h1 h2 ht => simpa using ht.drop n
theorem RepDs.take {l : List D} {xs : List Value} (h : RepDs S l xs) (n : Nat) : RepDs S (l.take n) (xs.take n) := by
  cases n with
  | zero => simpa using RepDs.nil
  | succ n =>
    cases h with
    | nil => simpa using RepDs.nil
    | cons h1 h2 ht => simpa using RepDs.cons h1 h2 (ht.take n)
theorem RepLv.len : ∀ {k : Nat} {l : List D} {xs : List Value}, RepLv S k l xs → xs.length = l.length * k
  | _, _, _, .nil => by simp
  | _, _, _, .cons h1 hk ht => by rw [List.length_append, ht.len, hk, List.length_cons, Nat.succ_mul, Nat.add_comm]
theorem RepLv.one : ∀ {k : Nat} {l : List D} {xs : List Value}, RepLv S k l xs → ∀ x ∈ xs, x.oneCell' = true
  | _, _, _, .nil => by simp
  | _, _, _, .cons h1 hk ht => fun x hx => by rcases List.mem_append.1 hx with hx | hx; exact h1.one x hx; exact ht.one x hx
theorem RepLv.app : ∀ {k : Nat} {l m : List D} {xs ys : List Value}, RepLv S k l xs → RepLv S k m ys → RepLv S k (l ++ m) (xs ++ ys)
  | _, _, _, _, _, .nil, h' => h'
  | _, _, _, _, _, .cons h1 hk ht, h' => by rw [List.append_assoc]; exact .cons h1 hk (ht.app h')
theorem drop_pre {ys zs : List Value} {k n : Nat} (hk : ys.length = k) : (ys ++ zs).drop ((n + 1) * k) = zs.drop (n * k) := by
  rw [Nat.succ_mul, Nat.add_comm, ← List.drop_drop, List.drop_append_of_le_length (by omega), List.drop_of_length_le (l := ys) (by omega), List.nil_append]
theorem RepLv.at_ : ∀ {k : Nat} {l : List D} {xs : List Value}, RepLv S k l xs → ∀ {i : Nat} {d : D}, l[i]? = some d → RepDs S d.lv ((xs.drop (i * k)).take k)
  | _, _, _, .nil, _, _, hi => by simp at hi
  | _, _, _, .cons h1 hk ht, 0, _, hi => by
      simp at hi; subst hi
      rw [Nat.zero_mul, List.drop_zero, List.take_append_of_le_length (by omega), List.take_of_length_le (by omega)]; exact h1
  | _, _, _, .cons h1 hk ht, i + 1, _, hi => by
      rw [drop_pre hk]
      exact ht.at_ (by simpa using hi)
theorem RepLv.drop : ∀ {k : Nat} {l : List D} {xs : List Value}, RepLv S k l xs → ∀ (n : Nat), RepLv S k (l.drop n) (xs.drop (n * k))
  | _, _, _, h, 0 => by simpa using h
  | _, _, _, .nil, n + 1 => by simpa using RepLv.nil
  | _, _, _, .cons h1 hk ht, n + 1 => by rw [List.drop_succ_cons, drop_pre hk]; exact ht.drop n
theorem RepLv.take : ∀ {k : Nat} {l : List D} {xs : List Value}, RepLv S k l xs → ∀ (n : Nat), RepLv S k (l.take n) (xs.take (n * k))
  | _, _, _, h, 0 => by simpa using RepLv.nil
  | _, _, _, .nil, n + 1 => by simpa using RepLv.nil
  | k, _, _, @RepLv.cons _ _ _ _ ys zs h1 hk ht, n + 1 => by
      rw [List.take_succ_cons, Nat.succ_mul, Nat.add_comm, List.take_append, show k + n * k - ys.length = n * k from by omega, List.take_of_length_le (l := ys) (by omega)]
      exact .cons h1 hk (ht.take n)
end

/-! ### What a slot holds -/
/-- Places of a stack, or of a row of rows: the stack's slice; a pointer to its cell o; the inner slice j; a pointer to its cell t. -/
inductive SP where
  | all
  | el (o : Nat)
  | row (j : Nat)
  | cell (j t : Nat)
/-- d: data; pi: a pointer to cells that never turn; ref: a pointer into an object; own: a row that may still be appended to; mrow: a slice that reads an object; mp: a map that is an object; fn: a closure. -/
inductive T where
  | d (x : D)
  | pi (ds : List D)
  | ref (id off : Nat)
  | own (k : Nat) (l : List D) (id : Nat)
  | mrow (id n : Nat)
  | mp (id : Nat)
  | stk (id ver : Nat) (po : SP)
  | fn (f : FuncId) (caps : List T)
  | bf (f : FuncId) (bs : List T)
  | tup (l : List T)
  | ag (l : List T)
  | pr (p : Value → Bool)
  | und
instance : Inhabited T := ⟨.und⟩
/-- S: what is known for good; blk: the block of an object; row: a row that grows, as a slice; len: 0 of one that is not there yet; 1 of cells; one more than its length of a row. -/
structure Gh where
  S : Sm
  blk : Nat → Nat
  row : Nat → Value
  len : Nat → Nat
/-- A stack's slice, or a pointer to one of its cells. -/
def ptrV (y : Value) (o : Nat) : Value := match y with
    | .slice (some a) _ _ => .pointer (some ⟨a.block, o, none⟩)
    | _ => undef
def rowsOf : Value → List Value
  | .tuple vs => vs.toList
  | _ => []
def stkV (y : Value) : SP → Value
  | .all => y
  | .el o => ptrV y o
  | .row j => (rowsOf y).getD j undef
  | .cell j t => ptrV ((rowsOf y).getD j undef) t
mutual
inductive RepT (g : Gh) : T → Value → Prop
  | d {x : D} {y : Value} (h : RepD g.S x y) : RepT g (.d x) y
  | pi {ds : List D} {xs : List Value} {b off : Nat} (h : RepDs g.S ds xs) (hr : ∀ i, i < xs.length → g.S b (off + i) = xs[i]?) : RepT g (.pi ds) (.pointer (some ⟨b, off, none⟩))
  | ref {id off : Nat} (ha : 1 ≤ g.len id) : RepT g (.ref id off) (.pointer (some ⟨g.blk id, off, none⟩))
  | own {k : Nat} {l : List D} {id : Nat} {y : Value} (h : RepD g.S (.sl k l) y) (hn : l.length + 1 ≤ g.len id) (hl : g.len id = l.length + 1 → g.row id = y) : RepT g (.own k l id) y
  | mrow {id n : Nat} (ha : 1 ≤ g.len id) (hn : n ≤ 9223372036854775807) : RepT g (.mrow id n) (.slice (some ⟨g.blk id, 0, none⟩) n n)
  | mp {id : Nat} (ha : 1 ≤ g.len id) : RepT g (.mp id) (.map (some (g.blk id)))
  | stk {id ver : Nat} {po : SP} {y : Value} (h1 : y.oneCell' = true) (hn : ver + 1 ≤ g.len id) (hl : g.len id = ver + 1 → y = stkV (g.row id) po) : RepT g (.stk id ver po) y
  | fn {f : FuncId} {caps : List T} {vs : List Value} (h : Reps g caps vs) : RepT g (.fn f caps) (.func (.func f) #[] vs.toArray)
  | bf {f : FuncId} {bs : List T} {vs : List Value} (h : Reps g bs vs) : RepT g (.bf f bs) (.func (.func f) vs.toArray #[])
  | tup {l : List T} {vs : List Value} (h : Reps g l vs) : RepT g (.tup l) (.tuple vs.toArray)
  | ag {l : List T} {vs : List Value} (h : Reps g l vs) (h1 : ∀ x ∈ vs, x.oneCell' = true) : RepT g (.ag l) (.agg vs.toArray)
  | pr {p : Value → Bool} {y : Value} (h1 : y.oneCell' = true) (h : p y = true) : RepT g (.pr p) y
  | und {y : Value} : RepT g .und y
inductive Reps (g : Gh) : List T → List Value → Prop
  | nil : Reps g [] []
  | cons {t : T} {l : List T} {x : Value} {xs : List Value} (h : RepT g t x) (ht : Reps g l xs) : Reps g (t :: l) (x :: xs)
end
/-! Whom it speaks of. -/
mutual
def T.has (id : Nat) : T → Bool
  | .ref i _ => i == id
  | .own _ _ i => i == id
  | .mrow i _ => i == id
  | .mp i => i == id
  | .stk i _ _ => i == id
  | .fn _ l => T.hass id l
  | .bf _ l => T.hass id l
  | .tup l => T.hass id l
  | .ag l => T.hass id l
  | _ => false
def T.hass (id : Nat) : List T → Bool
  | [] => false
  | t :: l => t.has id || T.hass id l
end
/-- g' knows more than g; of those of whom A speaks none lies elsewhere, but for a row that has grown. -/
structure GLe (A : Nat → Prop) (g g' : Gh) : Prop where
  S : SLe g.S g'.S
  blk : ∀ id, A id → 1 ≤ g.len id → g'.blk id = g.blk id
  len : ∀ id, A id → g.len id ≤ g'.len id
  row : ∀ id, A id → g'.len id = g.len id → g'.row id = g.row id
theorem GLe.refl (A : Nat → Prop) (g : Gh) : GLe A g g := ⟨SLe.refl _, fun _ _ _ => rfl, fun _ _ => Nat.le_refl _, fun _ _ _ => rfl⟩
theorem GLe.trans {A : Nat → Prop} {g g' g'' : Gh} (h : GLe A g g') (h' : GLe A g' g'') : GLe A g g'' :=
  ⟨h.S.trans h'.S, fun id a e => (h'.blk id a (Nat.le_trans e (h.len id a))).trans (h.blk id a e), fun id a => Nat.le_trans (h.len id a) (h'.len id a), fun id a e => by
    have h1 := h.len id a
    have h2 := h'.len id a
    exact (h'.row id a (by omega)).trans (h.row id a (by omega))⟩
theorem GLe.weak {A A' : Nat → Prop} {g g' : Gh} (h : GLe A g g') (ha : ∀ id, A' id → A id) : GLe A' g g' := ⟨h.S, fun id a => h.blk id (ha id a), fun id a => h.len id (ha id a), fun id a => h.row id (ha id a)⟩
mutual
theorem RepT.mono {A : Nat → Prop} {g g' : Gh} (h : GLe A g g') : ∀ {t : T} {v : Value}, RepT g t v → (∀ id, t.has id = true → A id) → RepT g' t v
  | _, _, .d h1, _ => .d (h1.mono h.S)
  | _, _, .pi h1 hr, _ => .pi (h1.mono h.S) fun i hi => by
      have := hr i hi
      rw [List.getElem?_eq_getElem hi] at this ⊢
      exact h.S _ _ _ this
  | _, _, .ref hl, ha => by
      have hA := ha _ (by simp [T.has]; rfl)
      rw [← h.blk _ hA hl]; exact .ref (Nat.le_trans hl (h.len _ hA))
  | _, _, .own h1 hn hl, ha => by
      have hA := ha _ (by simp [T.has]; rfl)
      have h2 := h.len _ hA
      exact .own (h1.mono h.S) (Nat.le_trans hn h2) fun e => (h.row _ hA (by omega)).trans (hl (by omega))
  | _, _, .mrow hl hn, ha => by
      have hA := ha _ (by simp [T.has]; rfl)
      rw [← h.blk _ hA hl]; exact .mrow (Nat.le_trans hl (h.len _ hA)) hn
  | _, _, .mp hl, ha => by
      have hA := ha _ (by simp [T.has]; rfl)
      rw [← h.blk _ hA hl]; exact .mp (Nat.le_trans hl (h.len _ hA))
  | _, _, .stk h1 hn hl, ha => by
      have hA := ha _ (by simp [T.has]; rfl)
      have h2 := h.len _ hA
      exact .stk h1 (Nat.le_trans hn h2) fun e => by rw [h.row _ hA (by omega)]; exact hl (by omega)
  | _, _, .fn h1, ha => .fn (Reps.mono h h1 fun id hi => ha id (by simpa [T.has] using hi))
  | _, _, .bf h1, ha => .bf (Reps.mono h h1 fun id hi => ha id (by simpa [T.has] using hi))
  | _, _, .tup h1, ha => .tup (Reps.mono h h1 fun id hi => ha id (by simpa [T.has] using hi))
  | _, _, .ag h1 h2, ha => .ag (Reps.mono h h1 fun id hi => ha id (by simpa [T.has] using hi)) h2
  | _, _, .pr h1 h2, _ => .pr h1 h2
  | _, _, .und, _ => .und
theorem Reps.mono {A : Nat → Prop} {g g' : Gh} (h : GLe A g g') : ∀ {l : List T} {xs : List Value}, Reps g l xs → (∀ id, T.hass id l = true → A id) → Reps g' l xs
  | _, _, .nil, _ => .nil
  | _, _, .cons h1 ht, ha => .cons (RepT.mono h h1 fun id hi => ha id (by simp [T.hass, hi])) (Reps.mono h ht fun id hi => ha id (by simp [T.hass, hi]))
end
end Go.Proofs.YtenlhfmchhljdaaDoor
