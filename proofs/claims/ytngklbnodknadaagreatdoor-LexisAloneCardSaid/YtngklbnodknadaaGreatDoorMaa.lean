/-
  Mem, Gd, Tab, in one.
-/
import Derived.WalkKit
import Derived.WalkSpells
import Derived.WalkLawsBesides
import Derived.WalkSmall
import Derived.Lib.Hide
import Derived.Laws.OwnMore
import Derived.Lib.LazyBuf
import Derived.Lib.ItoaNum
import GoSem.PinnedTables
section
namespace Go.Proofs.YtngklbnodknadaaGreatDoor
open Go.RowKit

/-- The cells xs lie at p in w. -/
def RowAt (w : World) (p : Option Addr) (xs : List Value) : Prop :=
  ∃ b off, (0 < xs.length → p = some ⟨b, off, none⟩ ∧ b < w.heap.size) ∧ ∀ i, i < xs.length → w.cell? ⟨b, off + i, none⟩ = xs[i]?

theorem RowAt.below {w w' : World} {p : Option Addr} {xs : List Value} (h : RowAt w p xs) (hw : Below w.heap.size w w') : RowAt w' p xs := by
  obtain ⟨b, off, h1, h2⟩ := h
  exact ⟨b, off, fun h => ⟨(h1 h).1, Nat.lt_of_lt_of_le (h1 h).2 hw.size⟩, fun i hi => by rw [hw.cell (h1 (by omega)).2]; exact h2 i hi⟩

theorem RowAt.nil (w : World) (p : Option Addr) : RowAt w p [] := ⟨0, 0, fun h => by simp at h, fun i hi => by simp at hi⟩

theorem RowAt.cons {w : World} {p : Option Addr} {xs : List Value} (h : RowAt w p xs) (hx : 0 < xs.length) : ∃ b off, p = some ⟨b, off, none⟩ ∧ b < w.heap.size ∧ ∀ i, i < xs.length → w.cell? ⟨b, off + i, none⟩ = xs[i]? := by
  obtain ⟨b, off, h1, h2⟩ := h
  exact ⟨b, off, (h1 hx).1, (h1 hx).2, h2⟩

theorem RowAt.at_ {w : World} {b off : Nat} {xs : List Value} (h : RowAt w (some ⟨b, off, none⟩) xs) {i : Nat} {v : Value} (hi : xs[i]? = some v) : w.cell? ⟨b, off + i, none⟩ = some v := by
  obtain ⟨b', off', h1, h2⟩ := h
  have hl : i < xs.length := (List.getElem?_eq_some_iff.1 hi).1
  obtain ⟨e, -⟩ := h1 (by omega)
  simp only [Option.some.injEq, Addr.mk.injEq, and_true] at e
  obtain ⟨rfl, rfl⟩ := e
  rw [h2 i hl, hi]

theorem RowAt.lt {w : World} {b off : Nat} {xs : List Value} (h : RowAt w (some ⟨b, off, none⟩) xs) (hx : 0 < xs.length) : b < w.heap.size := by
  obtain ⟨b', off', h1, h2⟩ := h
  obtain ⟨e, h3⟩ := h1 hx
  simp only [Option.some.injEq, Addr.mk.injEq, and_true] at e
  obtain ⟨rfl, rfl⟩ := e
  exact h3

theorem RowAt.part {w : World} {b off : Nat} {xs : List Value} (h : RowAt w (some ⟨b, off, none⟩) xs) (i n : Nat) : RowAt w (some ⟨b, off + i, none⟩) ((xs.drop i).take n) := by
  by_cases hx : 0 < xs.length
  · refine ⟨b, off + i, fun _ => ⟨rfl, h.lt hx⟩, fun j hj => ?_⟩
    have hj' : j < n ∧ i + j < xs.length := by simp at hj; omega
    rw [Nat.add_assoc, h.at_ (List.getElem?_eq_getElem hj'.2), List.getElem?_take, if_pos hj'.1, List.getElem?_drop, List.getElem?_eq_getElem hj'.2]
  · have : xs = [] := List.eq_nil_of_length_eq_zero (by omega)
    subst this
    simp only [List.drop_nil, List.take_nil]
    exact RowAt.nil _ _

theorem RowAt.take {w : World} {p : Option Addr} {xs : List Value} (h : RowAt w p xs) (n : Nat) : RowAt w p (xs.take n) := by
  obtain ⟨b, off, h1, h2⟩ := h
  refine ⟨b, off, fun h => h1 (by simp at h; omega), fun i hi => ?_⟩
  have : i < n ∧ i < xs.length := by simp at hi; omega
  rw [h2 i this.2, List.getElem?_take, if_pos this.1]

/-- A row of the call's own reads as its cells. -/
theorem rowAt_of_own {w : World} {base : Nat} {e : TypeId} {size : Nat} {p : Option Addr} {n cap : Nat} {xs : List Value} (h : w.ownsRow base e size (.slice p n cap) n xs) : RowAt w p xs := by
  rcases h.2 with ⟨hv, rfl⟩ | ⟨g, cap', cur, hv, hb, hg, hnc, hm, hs, ht⟩
  · have : xs = [] := List.eq_nil_of_length_eq_zero (by rw [h.1]; simp)
    subst this
    exact RowAt.nil _ _
  · simp only [Value.slice.injEq, true_and] at hv
    obtain ⟨rfl, rfl⟩ := hv
    refine ⟨g, 0, fun _ => ⟨rfl, (Array.getElem?_eq_some_iff.1 hg).1⟩, fun i hi => ?_⟩
    rw [Nat.zero_add]
    exact h.cellAt i (by rw [← h.1]; exact hi)

theorem own_below {w w' : World} {base : Nat} {e : TypeId} {size : Nat} {v : Value} {n : Nat} {xs : List Value} (h : w.ownsRow base e size v n xs) (hw : Below w.heap.size w w') : w'.ownsRow base e size v n xs := by
  refine ⟨h.1, ?_⟩
  rcases h.2 with hn | ⟨g, cap, cur, rfl, hb, hg, rest⟩
  · exact .inl hn
  · exact .inr ⟨g, cap, cur, rfl, hb, (hw.block g (Array.getElem?_eq_some_iff.1 hg).1).trans hg, rest⟩

/-- A row of the call's own is a slice, with room. -/
theorem own_slice {w : World} {base : Nat} {e : TypeId} {size : Nat} {v : Value} {n : Nat} {xs : List Value} (h : w.ownsRow base e size v n xs) : ∃ p cap, v = .slice p n cap ∧ n ≤ cap ∧ cap ≤ 9223372036854775807 := by
  rcases h.2 with ⟨rfl, rfl⟩ | ⟨g, cap, cur, rfl, hb, hg, hnc, hm, -⟩
  · exact ⟨none, 0, rfl, Nat.le_refl _, Nat.zero_le _⟩
  · exact ⟨_, cap, rfl, hnc, hm⟩

theorem own_mono {w : World} {base base' : Nat} {e : TypeId} {size : Nat} {v : Value} {n : Nat} {xs : List Value} (h : w.ownsRow base e size v n xs) (hb : base' ≤ base) : w.ownsRow base' e size v n xs := by
  refine ⟨h.1, ?_⟩
  rcases h.2 with hn | ⟨g, cap, cur, rfl, hg0, rest⟩
  · exact .inl hn
  · exact .inr ⟨g, cap, cur, rfl, Nat.le_trans hb hg0, rest⟩

/-- What an append has written is a row of the call's own: below the base nothing has turned. -/
theorem Below.appended {B : Nat} {w0 w w' : World} {e : TypeId} {size : Nat} {v : Value} {n : Nat} {xs : List Value} (h : Below B w0 w) (hB : B ≤ w0.heap.size) (hown : w.ownsRow B e size v n xs) (hg : w.grownBy w' v.ownBlock) : Below B w0 w' :=
  h.grown hg (Nat.le_trans hB h.size) fun k hk => (hown.lt k hk).1

theorem ret_int {k : IntKind} {a b : Int} (h : a = b) : Ending.returned (.int k a) = .returned (.int k b) := by rw [h]
theorem ret_bool {a b : Bool} (h : a = b) : Ending.returned (.bool a) = .returned (.bool b) := by rw [h]

theorem new_cell (w : World) (cs : Array Value) (t : TypeId) (fr : Nat × Nat) (k : Nat) : (w.alloc (.cells cs t fr)).cell? ⟨w.heap.size, k, none⟩ = cs[k]? := by
  have h : (w.alloc (.cells cs t fr)).heap[w.heap.size]? = some (.cells cs t fr) := by
    show (w.heap.push _)[w.heap.size]? = _
    simp
  unfold World.cell?
  dsimp only
  rw [h]
  rfl

/-- A cell that is there stays while a block is laid. -/
theorem cell_more {W : World} {a : Addr} {v : Value} (o : Obj) (h : W.cell? a = some v) : (W.alloc o).cell? a = some v := by
  obtain ⟨b, off, sp⟩ := a
  have hb : b < W.heap.size := by
    rcases Nat.lt_or_ge b W.heap.size with h1 | h1
    · exact h1
    · simp [World.cell?, Array.getElem?_eq_none h1] at h
  have e : (W.alloc o).heap[b]? = W.heap[b]? := by
    show (W.heap.push o)[b]? = _
    rw [Array.getElem?_push, if_neg (Nat.ne_of_lt hb)]
  unfold World.cell? at h ⊢
  dsimp only at h ⊢
  rw [e]
  exact h

theorem new_row (w : World) (cs : Array Value) (t : TypeId) (fr : Nat × Nat) : RowAt (w.alloc (.cells cs t fr)) (some ⟨w.heap.size, 0, none⟩) cs.toList :=
  ⟨w.heap.size, 0, fun _ => ⟨rfl, by simp⟩, fun i hi => by rw [Nat.zero_add, new_cell]; simp⟩

/-- Numbers as cells. -/
def ints (k : IntKind) (l : List Int) : List Value := l.map (Value.int k)
@[simp] theorem ints_length (k : IntKind) (l : List Int) : (ints k l).length = l.length := by simp [ints]
theorem ints_get (k : IntKind) (l : List Int) (i : Nat) : (ints k l)[i]? = (l[i]?).map (Value.int k) := by simp [ints]
theorem ints_getD {k : IntKind} {l : List Int} {i : Nat} (h : i < l.length) : (ints k l)[i]? = some (.int k (l.getD i 0)) := by simp [ints, h]
theorem ints_append (k : IntKind) (l m : List Int) : ints k (l ++ m) = ints k l ++ ints k m := by simp [ints]
theorem ints_take (k : IntKind) (l : List Int) (n : Nat) : ints k (l.take n) = (ints k l).take n := by simp [ints]
theorem ints_drop (k : IntKind) (l : List Int) (n : Nat) : ints k (l.drop n) = (ints k l).drop n := by simp [ints]
theorem ints_one {k : IntKind} {l : List Int} : ∀ u ∈ ints k l, u.oneCell' = true := by
  intro u hu
  obtain ⟨x, -, rfl⟩ := List.mem_map.1 hu
  rfl

/-! ### Slices -/
/-- '.slice p n cap' reads as the cells xs, 'size' of them an element. -/
structure Sl (w : World) (size : Nat) (p : Option Addr) (n cap : Nat) (xs : List Value) : Prop where
  row : RowAt w p xs
  len : xs.length = n * size
  le : n ≤ cap
  big : cap ≤ 9223372036854775807
  isNil : p = none → cap = 0

section
variable {w w' : World} {size : Nat} {p : Option Addr} {n cap : Nat} {xs : List Value}
theorem Sl.below (h : Sl w size p n cap xs) (hw : Below w.heap.size w w') : Sl w' size p n cap xs := ⟨h.row.below hw, h.len, h.le, h.big, h.isNil⟩
theorem Sl.zero (w : World) (size : Nat) : Sl w size none 0 0 [] := ⟨RowAt.nil _ _, by simp, Nat.le_refl _, Nat.zero_le _, fun _ => rfl⟩
theorem Sl.ptr (h : Sl w size p n cap xs) (hn : 0 < n) (hz : 0 < size) : ∃ b off, p = some ⟨b, off, none⟩ := by
  obtain ⟨b, off, h1, -⟩ := h.row.cons (by rw [h.len]; exact Nat.mul_pos hn hz)
  exact ⟨b, off, h1⟩
/-- A row of the call's own is a slice. -/
theorem Sl.of_own {base : Nat} {e : TypeId} (h : w.ownsRow base e size (.slice p n cap) n xs) : Sl w size p n cap xs := by
  refine ⟨rowAt_of_own h, h.1, ?_, ?_, ?_⟩
  all_goals rcases h.2 with ⟨hv, rfl⟩ | ⟨g, cap', cur, hv, hb, hg, hnc, hm, hs, ht⟩
  all_goals simp only [Value.slice.injEq, true_and] at hv
  all_goals obtain ⟨rfl, rfl⟩ := hv
  · exact Nat.le_refl _
  · exact hnc
  · exact Nat.zero_le _
  · exact hm
  · intro _; rfl
  · intro h; cases h
theorem Sl.take (h : Sl w size p n cap xs) {m : Nat} (hm : m ≤ n) : Sl w size p m cap (xs.take (m * size)) :=
  ⟨h.row.take _, by rw [List.length_take, h.len]; exact Nat.min_eq_left (Nat.mul_le_mul_right _ hm), Nat.le_trans hm h.le, h.big, h.isNil⟩
/-- The rest, from m on. -/
theorem Sl.drop {b off : Nat} (h : Sl w size (some ⟨b, off, none⟩) n cap xs) {m : Nat} (hm : m ≤ n) : Sl w size (some ⟨b, off + m * size, none⟩) (n - m) (cap - m) (xs.drop (m * size)) := by
  refine ⟨?_, by rw [List.length_drop, h.len, Nat.sub_mul], by have := h.le; omega, by have := h.big; omega, fun h => by cases h⟩
  have := h.row.part (m * size) xs.length
  rwa [List.take_of_length_le (by simp)] at this
/-- Nothing is left. -/
theorem Sl.empty (p : Option Addr) (hc : cap ≤ 9223372036854775807) (hp : p = none → cap = 0) : Sl w size p 0 cap [] := ⟨RowAt.nil _ _, by simp, Nat.zero_le _, hc, hp⟩
end

theorem add_lit' (b off j : Nat) : (⟨b, off, none⟩ : Addr).add j = ⟨b, off + j, none⟩ := by
  unfold Addr.add
  split
  · next h => rw [h]; rfl
  · rfl

/-- What 's[m:]' reads, as the model writes it. -/
theorem Sl.from_ {w : World} {size : Nat} {p : Option Addr} {n cap : Nat} {xs : List Value} (h : Sl w size p n cap xs) {m : Nat} (hm : m ≤ n) : Sl w size (if cap = m then p else p.map (·.add (m * size))) (n - m) (cap - m) (xs.drop (m * size)) := by
  have hle := h.le
  have hbig := h.big
  have hlen : (xs.drop (m * size)).length = (n - m) * size := by rw [List.length_drop, h.len, Nat.sub_mul]
  by_cases hc : cap = m
  · rw [if_pos hc]
    have e : n - m = 0 := by omega
    have : xs.drop (m * size) = [] := List.eq_nil_of_length_eq_zero (by rw [hlen, e]; simp)
    rw [this, e]
    exact Sl.empty _ (by omega) (fun hp => by have := h.isNil hp; omega)
  · rw [if_neg hc]
    cases p with
    | none => exact absurd (h.isNil rfl) (by omega)
    | some a =>
      refine ⟨?_, hlen, by omega, by omega, fun h => by cases h⟩
      by_cases hx : 0 < (xs.drop (m * size)).length
      · obtain ⟨b, off, hp, -, -⟩ := h.row.cons (by simp at hx; omega)
        obtain rfl : a = ⟨b, off, none⟩ := by simpa using hp
        have := h.row.part (m * size) xs.length
        rw [List.take_of_length_le (by simp)] at this
        simpa [add_lit'] using this
      · rw [List.eq_nil_of_length_eq_zero (Nat.eq_zero_of_not_pos hx)]
        exact RowAt.nil _ _
/-- What 's[l:h]' reads. -/
theorem Sl.cut {w : World} {size : Nat} {p : Option Addr} {n cap : Nat} {xs : List Value} (h : Sl w size p n cap xs) {m k : Nat} (hm : m ≤ k) (hk : k ≤ n) : Sl w size (if cap = m then p else p.map (·.add (m * size))) (k - m) (cap - m) ((xs.take (k * size)).drop (m * size)) :=
  (h.take hk).from_ hm

section
variable {P : Program} (w : World)
/-- append(s, x...), s nil or of the call's own, x any slice that reads. -/
theorem run_append_sl (base : Nat) (t ty e : TypeId) (i : TypeInfo) (z : Value) (size bytes : Nat) (ht : P.underlying t = some (.slice e)) (hi : P.info? e = some i) (hz : i.zero = some z)
    (hsize : i.size = size) (hby : i.bytes = bytes) (hzs : z.cells.size = size) (hsz : 0 < size)
    (v : Value) (n : Nat) (xs : List Value) (hown : w.ownsRow base e size v n xs)
    (p : Option Addr) (m c : Nat) (news : List Value) (hx : Sl w size p m c news) (h1 : ∀ u ∈ news, u.oneCell' = true)
    (h63 : n + m ≤ 9223372036854775807) (hbytes : (n + m) * bytes ≤ 140737488355328) (hbase : base ≤ w.heap.size) :
    ∃ p' c' w', (Builtin.append_ #[t, t] ty #[v, .slice p m c]).run P w = .ok (.slice p' (n + m) c') w' ∧ w'.ownsRow base e size (.slice p' (n + m) c') (n + m) (xs ++ news) ∧ Below base w w' := by
  have fin : ∀ v' w', (Builtin.append_ #[t, t] ty #[v, .slice p m c]).run P w = .ok v' w' → w'.ownsRow base e size v' (n + m) (xs ++ news) → w.grownBy w' v.ownBlock →
      ∃ p' c' w', (Builtin.append_ #[t, t] ty #[v, .slice p m c]).run P w = .ok (.slice p' (n + m) c') w' ∧ w'.ownsRow base e size (.slice p' (n + m) c') (n + m) (xs ++ news) ∧ Below base w w' := by
    intro v' w' hr ho hg
    obtain ⟨p', c', rfl, -, -⟩ := own_slice ho
    exact ⟨p', c', w', hr, ho, (Below.refl base w).grown hg hbase fun k hk => (hown.lt k hk).1⟩
  cases p with
  | none =>
    have hc := hx.isNil rfl
    have hm : m = 0 := by have := hx.le; omega
    subst hc hm
    have hn : news = [] := List.eq_nil_of_length_eq_zero (by rw [hx.len]; simp)
    subst hn
    exact fin v w (run_append_owned_none w base t ty e i size ht hi v n xs hown) (by simpa using hown) (World.grownBy.refl _ _)
  | some a =>
    have hcells : ∀ (j : Nat) u, news[j]? = some u → w.cell? (a.add j) = some u := by
      intro j u hj
      have hl : j < news.length := (List.getElem?_eq_some_iff.1 hj).1
      obtain ⟨b, off, hp, -, -⟩ := hx.row.cons (by omega)
      obtain rfl : a = ⟨b, off, none⟩ := by simpa using hp
      rw [add_lit']
      exact hx.row.at_ hj
    obtain ⟨v', w', hr, h2, h3, -⟩ := run_append_own (P := P) w base t ty e i z size bytes ht hi hz hsize hby hzs hsz v n xs hown a m c news hx.len hcells h1 h63 hbytes hbase
    exact fin v' w' hr h2 h3

theorem wp_append_sl {o : Oper} {a : Act} {K : Act → World → Prop} {Q : Exit → Act → World → Prop} (s x : Operand) (t : TypeId)
    (ho : o.op = .call { callee := .builtin .append, args := #[s, x], argTypes := #[t, t] })
    (base : Nat) (e : TypeId) (i : TypeInfo) (z : Value) (size bytes : Nat) (ht : P.underlying t = some (.slice e)) (hi : P.info? e = some i) (hz : i.zero = some z)
    (hsize : i.size = size) (hby : i.bytes = bytes) (hzs : z.cells.size = size) (hsz : 0 < size)
    (v : Value) (n : Nat) (xs : List Value) (hs : a.eval s = v) (hown : w.ownsRow base e size v n xs)
    (p : Option Addr) (m c : Nat) (news : List Value) (hx : a.eval x = .slice p m c) (hsl : Sl w size p m c news) (h1 : ∀ u ∈ news, u.oneCell' = true)
    (h63 : n + m ≤ 9223372036854775807) (hbytes : (n + m) * bytes ≤ 140737488355328) (hbase : base ≤ w.heap.size)
    (h : ∀ p' c' w', w'.ownsRow base e size (.slice p' (n + m) c') (n + m) (xs ++ news) → Below base w w' → K (a.put o.dst (.slice p' (n + m) c')) w') : o.wp P a w K Q := by
  obtain ⟨p', c', w', hr, h2, h3⟩ := run_append_sl (P := P) w base t o.type e i z size bytes ht hi hz hsize hby hzs hsz v n xs hown p m c news hsl h1 h63 hbytes hbase
  unfold Oper.wp execOp
  simp only [ho, resolve, invoke, builtin, Sem.run_bind, Sem.run_pure, Result.andThen_ok, List.map_toArray, List.map_cons, List.map_nil, hs, hx, hr]
  exact h p' c' w' h2 h3

theorem wpList_append_sl {ops : Array Oper} {rest : List Oper} {o : Oper} {a : Act} {Q : Exit → Act → World → Prop} (hgd : o.guard = none) (s x : Operand) (t : TypeId)
    (ho : o.op = .call { callee := .builtin .append, args := #[s, x], argTypes := #[t, t] })
    (base : Nat) (e : TypeId) (i : TypeInfo) (z : Value) (size bytes : Nat) (ht : P.underlying t = some (.slice e)) (hi : P.info? e = some i) (hz : i.zero = some z)
    (hsize : i.size = size) (hby : i.bytes = bytes) (hzs : z.cells.size = size) (hsz : 0 < size)
    (v : Value) (n : Nat) (xs : List Value) (hs : a.eval s = v) (hown : w.ownsRow base e size v n xs)
    (p : Option Addr) (m c : Nat) (news : List Value) (hx : a.eval x = .slice p m c) (hsl : Sl w size p m c news) (h1 : ∀ u ∈ news, u.oneCell' = true)
    (h63 : n + m ≤ 9223372036854775807) (hbytes : (n + m) * bytes ≤ 140737488355328) (hbase : base ≤ w.heap.size)
    (h : ∀ p' c' w', w'.ownsRow base e size (.slice p' (n + m) c') (n + m) (xs ++ news) → Below base w w' → wpList P ops Q rest (a.put o.dst (.slice p' (n + m) c')) w') : wpList P ops Q (o :: rest) a w :=
  wpList_plain hgd fun _ hK => wp_append_sl w s x t ho base e i z size bytes ht hi hz hsize hby hzs hsz v n xs hs hown p m c news hx hsl h1 h63 hbytes hbase fun p' c' w' h2 h3 => hK _ _ (h p' c' w' h2 h3)
end


section
variable {P : Program} (w : World)
/-- append(nil, make([]T, n)...), as Grow writes it: a row of the call's own, n zeros in it. -/
theorem run_append_zeros_nil (base : Nat) (t u ty e : TypeId) (i : TypeInfo) (z : Value) (size bytes : Nat) (ku : IntKind) (ht : P.underlying t = some (.slice e)) (hu : P.underlying u = some (.int ku)) (hi : P.info? e = some i) (hz : i.zero = some z)
    (hsize : i.size = size) (hby : i.bytes = bytes) (hzs : z.cells.size = size) (hsz : 0 < size) (k : IntKind) (x : Int) (n : Nat) (hx : x = (n : Int)) (h0 : 0 < n) (h63 : n ≤ 9223372036854775807) (hbytes : n * bytes ≤ 140737488355328) (hbase : base ≤ w.heap.size) :
    ∃ g cap w', (Builtin.append_ #[t, u] ty #[.slice none 0 0, .int k x]).run P w = .ok (.slice (some ⟨g, 0, none⟩) n cap) w' ∧ n ≤ cap ∧ cap ≤ 9223372036854775807 ∧
      w'.ownsRow base e size (.slice (some ⟨g, 0, none⟩) 0 cap) 0 [] ∧ Below base w w' := by
  subst hx hsize hby
  have hn : n ≠ 0 := by omega
  have hw : IntKind.i64.wrap (n : Int) = (n : Int) := IntWalk.i64_in _ (by omega)
  have h1 : ¬ ((n : Int) < 0) := by omega
  have h2 : ¬ (281474976710656 < (n : Int) * (i.bytes : Int)) := by
    have : ((n * i.bytes : Nat) : Int) ≤ 281474976710656 := by omega
    rw [Int.natCast_mul] at this; omega
  have h63' : ¬ (9223372036854775807 < (n : Int)) := by omega
  have h48' : ¬ (281474976710656 < Builtin.nextslicecap n 0 * i.bytes) := by rw [nextslicecap_zero h0]; omega
  have hge := grownCap_ge w n 0 e
  have hle := grownCap_le_maxLen w n 0 e (by unfold maxLen; omega)
  refine ⟨w.heap.size, grownCap w n 0 e, w.drew.alloc (.cells (Builtin.zeroCells z.cells n ++ Builtin.zeroCells z.cells (grownCap w n 0 e - n)) e), ?_, hge, hle, ?_, ?_⟩
  · simp [Builtin.append_, run_underlying ht, run_underlying hu, sizeOf, typeInfo, zeroValue, hi, hz, asInt, asIntOf, hw, h1, h2, hn, h63', h48', Question.forced, run_firstCells_none, newRow, grownCap]
    intro h3
    exact absurd (Nat.mul_eq_zero.1 h3) (by omega)
  · exact World.ownsRow_made w.drew _ _ hbase hle (by
      rw [Array.size_append, size_zeroCells, size_zeroCells, hzs, ← Nat.add_mul]
      congr 1; omega)
  · exact ((Below.refl base w).drew).alloc hbase _

theorem wpList_append_zeros_nil {ops : Array Oper} {rest : List Oper} {o : Oper} {a : Act} {Q : Exit → Act → World → Prop} (hgd : o.guard = none) (s y : Operand) (t u : TypeId)
    (ho : o.op = .call { callee := .builtin .append, args := #[s, y], argTypes := #[t, u] })
    (base : Nat) (e : TypeId) (i : TypeInfo) (z : Value) (size bytes : Nat) (ku : IntKind) (ht : P.underlying t = some (.slice e)) (hu : P.underlying u = some (.int ku)) (hi : P.info? e = some i) (hz : i.zero = some z)
    (hsize : i.size = size) (hby : i.bytes = bytes) (hzs : z.cells.size = size) (hsz : 0 < size) (hs : a.eval s = .slice none 0 0) (k : IntKind) (x : Int) (hy : a.eval y = .int k x) (n : Nat) (hx : x = (n : Int)) (h0 : 0 < n) (h63 : n ≤ 9223372036854775807) (hbytes : n * bytes ≤ 140737488355328) (hbase : base ≤ w.heap.size)
    (h : ∀ g cap w', n ≤ cap → cap ≤ 9223372036854775807 → w'.ownsRow base e size (.slice (some ⟨g, 0, none⟩) 0 cap) 0 [] → Below base w w' → wpList P ops Q rest (a.put o.dst (.slice (some ⟨g, 0, none⟩) n cap)) w') : wpList P ops Q (o :: rest) a w :=
  wpList_plain hgd fun K hK => by
    obtain ⟨g, cap, w', hr, h1, h2, h3, h4⟩ := run_append_zeros_nil (P := P) w base t u o.type e i z size bytes ku ht hu hi hz hsize hby hzs hsz k x n hx h0 h63 hbytes hbase
    unfold Oper.wp execOp
    simp only [ho, resolve, invoke, builtin, Sem.run_bind, Sem.run_pure, Result.andThen_ok, List.map_toArray, List.map_cons, List.map_nil, hs, hy, hr]
    exact hK _ _ (h g cap w' h1 h2 h3 h4)
end


/-! ### One block alone has turned -/
theorem RowAt.kept {w w' : World} {A : Nat} {p : Option Addr} {xs : List Value} (h : RowAt w p xs) (hg : w.grownBy w' (some A)) (hp : 0 < xs.length → ∀ a, p = some a → a.block ≠ A) : RowAt w' p xs := by
  obtain ⟨b, off, h1, h2⟩ := h
  refine ⟨b, off, fun h => ⟨(h1 h).1, Nat.lt_of_lt_of_le (h1 h).2 hg.size⟩, fun i hi => ?_⟩
  obtain ⟨e, hb⟩ := h1 (by omega)
  have hne := hp (by omega) _ e
  have : w'.heap[b]? = w.heap[b]? := hg.block b hb (by simpa using hne)
  rw [World.cell?_of_block (a := ⟨b, off + i, none⟩) this]
  exact h2 i hi
theorem Sl.kept {w w' : World} {A size n cap : Nat} {p : Option Addr} {xs : List Value} (h : Sl w size p n cap xs) (hg : w.grownBy w' (some A)) (hp : 0 < xs.length → ∀ a, p = some a → a.block ≠ A) : Sl w' size p n cap xs :=
  ⟨h.row.kept hg hp, h.len, h.le, h.big, h.isNil⟩
theorem own_ge {w : World} {base : Nat} {e : TypeId} {size n cap : Nat} {p : Option Addr} {xs : List Value} (h : w.ownsRow base e size (.slice p n cap) n xs) : ∀ a, p = some a → base ≤ a.block := by
  intro a ha
  subst ha
  exact (h.lt a.block rfl).1
theorem grown_set (w : World) (A : Nat) (o : Nat) (v : Value) : w.grownBy (w.setCell ⟨A, o, none⟩ v) (some A) :=
  ⟨rfl, rfl, rfl, by simp [World.setCell], fun k _ hk => Below.heap_setCell w ⟨A, o, none⟩ v k (by simpa using hk)⟩
theorem grown_of_below {w w' : World} (h : Below w.heap.size w w') (row : Option Nat) : w.grownBy w' row := ⟨h.os, h.tape, h.output, h.size, fun k hk _ => h.block k hk⟩
theorem grown_trans {a b c : World} {row : Option Nat} (h : a.grownBy b row) (h' : b.grownBy c row) : a.grownBy c row :=
  ⟨h'.os.trans h.os, h'.tape.trans h.tape, h'.output.trans h.output, Nat.le_trans h.size h'.size, fun k hk hr => (h'.block k (Nat.lt_of_lt_of_le hk h.size) hr).trans (h.block k hk hr)⟩
theorem below_of_grown {B A : Nat} {w0 w w' : World} (h : Below B w0 w) (hg : w.grownBy w' (some A)) (hB : B ≤ w.heap.size) (hA : B ≤ A) : Below B w0 w' :=
  h.grown hg hB fun k hk => by cases hk; exact hA

theorem RowAt.block {w : World} {p : Option Addr} {xs : List Value} (h : RowAt w p xs) (hx : 0 < xs.length) : ∀ a, p = some a → a.block < w.heap.size := by
  intro a ha
  obtain ⟨b, off, e, hb, -⟩ := h.cons hx
  rw [ha] at e
  obtain rfl : a = ⟨b, off, none⟩ := by simpa using e
  exact hb
theorem new_frozen (w : World) (cs : Array Value) (t : TypeId) (k : Nat) : (w.alloc (.cells cs t)).frozen? ⟨w.heap.size, k, none⟩ = false := by
  have h : (w.alloc (.cells cs t)).heap[w.heap.size]? = some (.cells cs t (0, 0)) := by
    show (w.heap.push _)[w.heap.size]? = _
    simp
  unfold World.frozen?
  dsimp only
  rw [h]
  simp

theorem Sl.int_at {w : World} {k : IntKind} {p : Option Addr} {cap : Nat} {l : List Int} (h : Sl w 1 p l.length cap (ints k l)) {i : Nat} (hi : i < l.length) : ∃ b off, p = some ⟨b, off, none⟩ ∧ b < w.heap.size ∧ w.cell? ⟨b, off + i, none⟩ = some (.int k (l.getD i 0)) := by
  obtain ⟨b, off, e, hb, hc⟩ := h.row.cons (by simp; omega)
  exact ⟨b, off, e, hb, (hc i (by simpa using hi)).trans (ints_getD hi)⟩

theorem enters_own {P : Program} {f : FuncId} {fn : Func} {c : Code} (hf : P.funcs[f]? = some fn) (hname : (fn.name == "runtime.NumGoroutine") = false) (hb : fn.body = some c) :
    ∀ (args : Array Value) (w : World), (callFunc f args).run P w = .ok (.enter f args) w := by
  intro args w
  unfold callFunc
  have hn : ¬ fn.name = "runtime.NumGoroutine" := by simpa using hname
  simp [hf, hn, hb]

theorem boxes3 (w : World) (a b c : Value) (t1 t2 t3 : TypeId) :
    (((w.alloc (.cells #[a] t1)).alloc (.cells #[b] t2)).alloc (.cells #[c] t3)).cell? ⟨w.heap.size, 0, none⟩ = some a ∧
    (((w.alloc (.cells #[a] t1)).alloc (.cells #[b] t2)).alloc (.cells #[c] t3)).cell? ⟨w.heap.size + 1, 0, none⟩ = some b ∧
    (((w.alloc (.cells #[a] t1)).alloc (.cells #[b] t2)).alloc (.cells #[c] t3)).cell? ⟨w.heap.size + 1 + 1, 0, none⟩ = some c ∧
    (((w.alloc (.cells #[a] t1)).alloc (.cells #[b] t2)).alloc (.cells #[c] t3)).heap.size = w.heap.size + 1 + 1 + 1 ∧
    Below w.heap.size w (((w.alloc (.cells #[a] t1)).alloc (.cells #[b] t2)).alloc (.cells #[c] t3)) := by
  have e1 : (w.alloc (.cells #[a] t1)).heap.size = w.heap.size + 1 := by simp
  have e2 : ((w.alloc (.cells #[a] t1)).alloc (.cells #[b] t2)).heap.size = w.heap.size + 1 + 1 := by simp
  have b1 := (Below.refl w.heap.size w).alloc (Nat.le_refl _) (.cells #[a] t1)
  have c1 := new_cell w #[a] t1 (0, 0) 0
  have c2 := new_cell (w.alloc (.cells #[a] t1)) #[b] t2 (0, 0) 0
  have c3 := new_cell ((w.alloc (.cells #[a] t1)).alloc (.cells #[b] t2)) #[c] t3 (0, 0) 0
  have d2 := (Below.refl (w.alloc (.cells #[a] t1)).heap.size (w.alloc (.cells #[a] t1))).alloc (Nat.le_refl _) (.cells #[b] t2)
  have d3 := (Below.refl ((w.alloc (.cells #[a] t1)).alloc (.cells #[b] t2)).heap.size ((w.alloc (.cells #[a] t1)).alloc (.cells #[b] t2))).alloc (Nat.le_refl _) (.cells #[c] t3)
  rw [e1] at c2
  rw [e2] at c3
  refine ⟨?_, ?_, c3, by simp, (b1.trans (d2.mono b1.size)).trans (d3.mono (by simp; omega))⟩
  · rw [d3.cell (p := ⟨w.heap.size, 0, none⟩) (by simp; omega), d2.cell (p := ⟨w.heap.size, 0, none⟩) (by simp)]; exact c1
  · rw [d3.cell (p := ⟨w.heap.size + 1, 0, none⟩) (by simp)]; exact c2

end Go.Proofs.YtngklbnodknadaaGreatDoor
end

section
namespace Go.Proofs.YtngklbnodknadaaGreatDoor
open Go.RowKit

/-! ### Data -/
/-- Data that never turns: a value of one cell; a struct as its cells; a slice, k cells an element. -/
inductive D where
  | v (x : Value)
  | agg (l : List D)
  | sl (k : Nat) (l : List D)
instance : Inhabited D := ⟨.v undef⟩
/-- The cells of one. -/
def D.lv : D → List D
  | .agg l => l
  | d => [d]
/-- What is known of memory for good: of a block and a place the cell. -/
abbrev Sm := Nat → Nat → Option Value
def SLe (S S' : Sm) : Prop := ∀ b o x, S b o = some x → S' b o = some x
theorem SLe.refl (S : Sm) : SLe S S := fun _ _ _ h => h
theorem SLe.trans {S S' S'' : Sm} (h : SLe S S') (h' : SLe S' S'') : SLe S S'' := fun _ _ _ e => h' _ _ _ (h _ _ _ e)
def RowS (S : Sm) (p : Option Addr) (xs : List Value) : Prop := ∃ b off, (0 < xs.length → p = some ⟨b, off, none⟩) ∧ ∀ i, i < xs.length → S b (off + i) = xs[i]?
theorem RowS.mono {S S' : Sm} {p : Option Addr} {xs : List Value} (h : SLe S S') (hr : RowS S p xs) : RowS S' p xs := by
  obtain ⟨b, off, h1, h2⟩ := hr
  refine ⟨b, off, h1, fun i hi => ?_⟩
  have := h2 i hi
  rw [List.getElem?_eq_getElem hi] at this ⊢
  exact h _ _ _ this
theorem RowS.nil (S : Sm) (p : Option Addr) : RowS S p [] := ⟨0, 0, fun h => by simp at h, fun i h => by simp at h⟩

mutual
inductive RepD (S : Sm) : D → Value → Prop
  | v {x : Value} (h : x.oneCell' = true) : RepD S (.v x) x
  | agg {l : List D} {xs : List Value} (h : RepDs S l xs) : RepD S (.agg l) (.agg xs.toArray)
  | sl {k : Nat} {l : List D} {p : Option Addr} {cap : Nat} {xs : List Value} (h : RepLv S k l xs) (hr : RowS S p xs) (hc : l.length ≤ cap) (hb : cap ≤ 9223372036854775807) (hn : p = none → cap = 0) : RepD S (.sl k l) (.slice p l.length cap)
inductive RepDs (S : Sm) : List D → List Value → Prop
  | nil : RepDs S [] []
  | cons {d : D} {l : List D} {x : Value} {xs : List Value} (h : RepD S d x) (h1 : x.oneCell' = true) (ht : RepDs S l xs) : RepDs S (d :: l) (x :: xs)
inductive RepLv (S : Sm) : Nat → List D → List Value → Prop
  | nil {k : Nat} : RepLv S k [] []
  | cons {k : Nat} {d : D} {l : List D} {xs ys : List Value} (h : RepDs S d.lv xs) (hk : xs.length = k) (ht : RepLv S k l ys) : RepLv S k (d :: l) (xs ++ ys)
end

mutual
theorem RepD.mono {S S' : Sm} (h : SLe S S') : ∀ {d : D} {v : Value}, RepD S d v → RepD S' d v
  | _, _, .v h1 => .v h1
  | _, _, .agg h1 => .agg (RepDs.mono h h1)
  | _, _, .sl h1 hr hc hb hn => .sl (RepLv.mono h h1) (hr.mono h) hc hb hn
theorem RepDs.mono {S S' : Sm} (h : SLe S S') : ∀ {l : List D} {xs : List Value}, RepDs S l xs → RepDs S' l xs
  | _, _, .nil => .nil
  | _, _, .cons h1 h2 ht => .cons (RepD.mono h h1) h2 (RepDs.mono h ht)
theorem RepLv.mono {S S' : Sm} (h : SLe S S') : ∀ {k : Nat} {l : List D} {xs : List Value}, RepLv S k l xs → RepLv S' k l xs
  | _, _, _, .nil => .nil
  | _, _, _, .cons h1 hk ht => .cons (RepDs.mono h h1) hk (RepLv.mono h ht)
end
section
variable {S : Sm}
theorem RepDs.len {l : List D} {xs : List Value} (h : RepDs S l xs) : xs.length = l.length := by
  cases h with
  | nil => rfl
  | cons h1 h2 ht => rw [List.length_cons, List.length_cons, ht.len]
theorem RepDs.at_ {l : List D} {xs : List Value} (h : RepDs S l xs) {i : Nat} {d : D} (hi : l[i]? = some d) : ∃ x, xs[i]? = some x ∧ RepD S d x ∧ x.oneCell' = true := by
  cases h with
  | nil => simp at hi
  | @cons d' l' x xs' h1 h2 ht =>
    cases i with
    | zero => simp at hi; subst hi; exact ⟨_, rfl, h1, h2⟩
    | succ i => simpa using ht.at_ (by simpa using hi)
theorem RepDs.one {l : List D} {xs : List Value} (h : RepDs S l xs) : ∀ x ∈ xs, x.oneCell' = true := by
  cases h with
  | nil => simp
  | cons h1 h2 ht => intro x hx; rcases List.mem_cons.1 hx with rfl | hx; exact h2; exact ht.one x hx
theorem RepDs.app {l m : List D} {xs ys : List Value} (h : RepDs S l xs) (h' : RepDs S m ys) : RepDs S (l ++ m) (xs ++ ys) := by
  cases h with
  | nil => exact h'
  | cons h1 h2 ht => exact .cons h1 h2 (ht.app h')
theorem RepDs.drop {l : List D} {xs : List Value} (h : RepDs S l xs) (n : Nat) : RepDs S (l.drop n) (xs.drop n) := by
  cases n with
  | zero => simpa using h
  | succ n =>
    cases h with
    | nil => simpa using RepDs.nil
    | cons h1 h2 ht => simpa using ht.drop n
theorem RepDs.take {l : List D} {xs : List Value} (h : RepDs S l xs) (n : Nat) : RepDs S (l.take n) (xs.take n) := by
  cases n with
  | zero => simpa using RepDs.nil
  | succ n =>
    cases h with
    | nil => simpa using RepDs.nil
    | cons h1 h2 ht => simpa using RepDs.cons h1 h2 (ht.take n)
theorem RepLv.len : ∀ {k : Nat} {l : List D} {xs : List Value}, RepLv S k l xs → xs.length = l.length * k
  | _, _, _, .nil => by simp
  | _, _, _, .cons h1 hk ht => by rw [List.length_append, ht.len, hk, List.length_cons, Nat.succ_mul, Nat.add_comm]
theorem RepLv.one : ∀ {k : Nat} {l : List D} {xs : List Value}, RepLv S k l xs → ∀ x ∈ xs, x.oneCell' = true
  | _, _, _, .nil => by simp
  | _, _, _, .cons h1 hk ht => fun x hx => by rcases List.mem_append.1 hx with hx | hx; exact h1.one x hx; exact ht.one x hx
theorem RepLv.app : ∀ {k : Nat} {l m : List D} {xs ys : List Value}, RepLv S k l xs → RepLv S k m ys → RepLv S k (l ++ m) (xs ++ ys)
  | _, _, _, _, _, .nil, h' => h'
  | _, _, _, _, _, .cons h1 hk ht, h' => by rw [List.append_assoc]; exact .cons h1 hk (ht.app h')
theorem drop_pre {ys zs : List Value} {k n : Nat} (hk : ys.length = k) : (ys ++ zs).drop ((n + 1) * k) = zs.drop (n * k) := by
  rw [Nat.succ_mul, Nat.add_comm, ← List.drop_drop, List.drop_append_of_le_length (by omega), List.drop_of_length_le (l := ys) (by omega), List.nil_append]
theorem RepLv.at_ : ∀ {k : Nat} {l : List D} {xs : List Value}, RepLv S k l xs → ∀ {i : Nat} {d : D}, l[i]? = some d → RepDs S d.lv ((xs.drop (i * k)).take k)
  | _, _, _, .nil, _, _, hi => by simp at hi
  | _, _, _, .cons h1 hk ht, 0, _, hi => by
      simp at hi; subst hi
      rw [Nat.zero_mul, List.drop_zero, List.take_append_of_le_length (by omega), List.take_of_length_le (by omega)]; exact h1
  | _, _, _, .cons h1 hk ht, i + 1, _, hi => by
      rw [drop_pre hk]
      exact ht.at_ (by simpa using hi)
theorem RepLv.drop : ∀ {k : Nat} {l : List D} {xs : List Value}, RepLv S k l xs → ∀ (n : Nat), RepLv S k (l.drop n) (xs.drop (n * k))
  | _, _, _, h, 0 => by simpa using h
  | _, _, _, .nil, n + 1 => by simpa using RepLv.nil
  | _, _, _, .cons h1 hk ht, n + 1 => by rw [List.drop_succ_cons, drop_pre hk]; exact ht.drop n
theorem RepLv.take : ∀ {k : Nat} {l : List D} {xs : List Value}, RepLv S k l xs → ∀ (n : Nat), RepLv S k (l.take n) (xs.take (n * k))
  | _, _, _, h, 0 => by simpa using RepLv.nil
  | _, _, _, .nil, n + 1 => by simpa using RepLv.nil
  | k, _, _, @RepLv.cons _ _ _ _ ys zs h1 hk ht, n + 1 => by
      rw [List.take_succ_cons, Nat.succ_mul, Nat.add_comm, List.take_append, show k + n * k - ys.length = n * k from by omega, List.take_of_length_le (l := ys) (by omega)]
      exact .cons h1 hk (ht.take n)
end

/-! ### What a slot holds -/
/-- Places of a stack, or of a row of rows: the stack's slice; a pointer to its cell o; the inner slice j; a pointer to its cell t. -/
inductive SP where
  | all
  | el (o : Nat)
  | row (j : Nat)
  | cell (j t : Nat)
/-- d: data; pi: a pointer to cells that never turn; ref: a pointer into an object; own: a row that may still be appended to; mrow: a slice that reads an object; mp: a map that is an object; fn: a closure. -/
inductive T where
  | d (x : D)
  | pi (ds : List D)
  | ref (id off : Nat)
  | own (k : Nat) (l : List D) (id : Nat)
  | mrow (id n : Nat)
  | mp (id : Nat)
  | stk (id ver : Nat) (po : SP)
  | fn (f : FuncId) (caps : List T)
  | bf (f : FuncId) (bs : List T)
  | tup (l : List T)
  | ag (l : List T)
  | pr (p : Value → Bool)
  | und
instance : Inhabited T := ⟨.und⟩
/-- S: what is known for good; blk: the block of an object; row: a row that grows, as a slice; len: 0 of one that is not there yet; 1 of cells; one more than its length of a row. -/
structure Gh where
  S : Sm
  blk : Nat → Nat
  row : Nat → Value
  len : Nat → Nat
/-- A stack's slice, or a pointer to one of its cells. -/
def ptrV (y : Value) (o : Nat) : Value := match y with
    | .slice (some a) _ _ => .pointer (some ⟨a.block, o, none⟩)
    | _ => undef
def rowsOf : Value → List Value
  | .tuple vs => vs.toList
  | _ => []
def stkV (y : Value) : SP → Value
  | .all => y
  | .el o => ptrV y o
  | .row j => (rowsOf y).getD j undef
  | .cell j t => ptrV ((rowsOf y).getD j undef) t
mutual
inductive RepT (g : Gh) : T → Value → Prop
  | d {x : D} {y : Value} (h : RepD g.S x y) : RepT g (.d x) y
  | pi {ds : List D} {xs : List Value} {b off : Nat} (h : RepDs g.S ds xs) (hr : ∀ i, i < xs.length → g.S b (off + i) = xs[i]?) : RepT g (.pi ds) (.pointer (some ⟨b, off, none⟩))
  | ref {id off : Nat} (ha : 1 ≤ g.len id) : RepT g (.ref id off) (.pointer (some ⟨g.blk id, off, none⟩))
  | own {k : Nat} {l : List D} {id : Nat} {y : Value} (h : RepD g.S (.sl k l) y) (hn : l.length + 1 ≤ g.len id) (hl : g.len id = l.length + 1 → g.row id = y) : RepT g (.own k l id) y
  | mrow {id n c : Nat} (ha : 1 ≤ g.len id) (hn : n ≤ c) (hc : c ≤ 9223372036854775807) : RepT g (.mrow id n) (.slice (some ⟨g.blk id, 0, none⟩) n c)
  | mp {id : Nat} (ha : 1 ≤ g.len id) : RepT g (.mp id) (.map (some (g.blk id)))
  | stk {id ver : Nat} {po : SP} {y : Value} (h1 : y.oneCell' = true) (hn : ver + 1 ≤ g.len id) (hl : g.len id = ver + 1 → y = stkV (g.row id) po) : RepT g (.stk id ver po) y
  | fn {f : FuncId} {caps : List T} {vs : List Value} (h : Reps g caps vs) : RepT g (.fn f caps) (.func (.func f) #[] vs.toArray)
  | bf {f : FuncId} {bs : List T} {vs : List Value} (h : Reps g bs vs) : RepT g (.bf f bs) (.func (.func f) vs.toArray #[])
  | tup {l : List T} {vs : List Value} (h : Reps g l vs) : RepT g (.tup l) (.tuple vs.toArray)
  | ag {l : List T} {vs : List Value} (h : Reps g l vs) (h1 : ∀ x ∈ vs, x.oneCell' = true) : RepT g (.ag l) (.agg vs.toArray)
  | pr {p : Value → Bool} {y : Value} (h1 : y.oneCell' = true) (h : p y = true) : RepT g (.pr p) y
  | und {y : Value} : RepT g .und y
inductive Reps (g : Gh) : List T → List Value → Prop
  | nil : Reps g [] []
  | cons {t : T} {l : List T} {x : Value} {xs : List Value} (h : RepT g t x) (ht : Reps g l xs) : Reps g (t :: l) (x :: xs)
end
/-! Whom it speaks of. -/
mutual
def T.has (id : Nat) : T → Bool
  | .ref i _ => i == id
  | .own _ _ i => i == id
  | .mrow i _ => i == id
  | .mp i => i == id
  | .stk i _ _ => i == id
  | .fn _ l => T.hass id l
  | .bf _ l => T.hass id l
  | .tup l => T.hass id l
  | .ag l => T.hass id l
  | _ => false
def T.hass (id : Nat) : List T → Bool
  | [] => false
  | t :: l => t.has id || T.hass id l
end
/-- g' knows more than g; of those of whom A speaks none lies elsewhere, but for a row that has grown. -/
structure GLe (A : Nat → Prop) (g g' : Gh) : Prop where
  S : SLe g.S g'.S
  blk : ∀ id, A id → 1 ≤ g.len id → g'.blk id = g.blk id
  len : ∀ id, A id → g.len id ≤ g'.len id
  row : ∀ id, A id → g'.len id = g.len id → g'.row id = g.row id
theorem GLe.refl (A : Nat → Prop) (g : Gh) : GLe A g g := ⟨SLe.refl _, fun _ _ _ => rfl, fun _ _ => Nat.le_refl _, fun _ _ _ => rfl⟩
theorem GLe.trans {A : Nat → Prop} {g g' g'' : Gh} (h : GLe A g g') (h' : GLe A g' g'') : GLe A g g'' :=
  ⟨h.S.trans h'.S, fun id a e => (h'.blk id a (Nat.le_trans e (h.len id a))).trans (h.blk id a e), fun id a => Nat.le_trans (h.len id a) (h'.len id a), fun id a e => by
    have h1 := h.len id a
    have h2 := h'.len id a
    exact (h'.row id a (by omega)).trans (h.row id a (by omega))⟩
theorem GLe.weak {A A' : Nat → Prop} {g g' : Gh} (h : GLe A g g') (ha : ∀ id, A' id → A id) : GLe A' g g' := ⟨h.S, fun id a => h.blk id (ha id a), fun id a => h.len id (ha id a), fun id a => h.row id (ha id a)⟩
mutual
theorem RepT.mono {A : Nat → Prop} {g g' : Gh} (h : GLe A g g') : ∀ {t : T} {v : Value}, RepT g t v → (∀ id, t.has id = true → A id) → RepT g' t v
  | _, _, .d h1, _ => .d (h1.mono h.S)
  | _, _, .pi h1 hr, _ => .pi (h1.mono h.S) fun i hi => by
      have := hr i hi
      rw [List.getElem?_eq_getElem hi] at this ⊢
      exact h.S _ _ _ this
  | _, _, .ref hl, ha => by
      have hA := ha _ (by simp [T.has]; rfl)
      rw [← h.blk _ hA hl]; exact .ref (Nat.le_trans hl (h.len _ hA))
  | _, _, .own h1 hn hl, ha => by
      have hA := ha _ (by simp [T.has]; rfl)
      have h2 := h.len _ hA
      exact .own (h1.mono h.S) (Nat.le_trans hn h2) fun e => (h.row _ hA (by omega)).trans (hl (by omega))
  | _, _, .mrow hl hn hc, ha => by
      have hA := ha _ (by simp [T.has]; rfl)
      rw [← h.blk _ hA hl]; exact .mrow (Nat.le_trans hl (h.len _ hA)) hn hc
  | _, _, .mp hl, ha => by
      have hA := ha _ (by simp [T.has]; rfl)
      rw [← h.blk _ hA hl]; exact .mp (Nat.le_trans hl (h.len _ hA))
  | _, _, .stk h1 hn hl, ha => by
      have hA := ha _ (by simp [T.has]; rfl)
      have h2 := h.len _ hA
      exact .stk h1 (Nat.le_trans hn h2) fun e => by rw [h.row _ hA (by omega)]; exact hl (by omega)
  | _, _, .fn h1, ha => .fn (Reps.mono h h1 fun id hi => ha id (by simpa [T.has] using hi))
  | _, _, .bf h1, ha => .bf (Reps.mono h h1 fun id hi => ha id (by simpa [T.has] using hi))
  | _, _, .tup h1, ha => .tup (Reps.mono h h1 fun id hi => ha id (by simpa [T.has] using hi))
  | _, _, .ag h1 h2, ha => .ag (Reps.mono h h1 fun id hi => ha id (by simpa [T.has] using hi)) h2
  | _, _, .pr h1 h2, _ => .pr h1 h2
  | _, _, .und, _ => .und
theorem Reps.mono {A : Nat → Prop} {g g' : Gh} (h : GLe A g g') : ∀ {l : List T} {xs : List Value}, Reps g l xs → (∀ id, T.hass id l = true → A id) → Reps g' l xs
  | _, _, .nil, _ => .nil
  | _, _, .cons h1 ht, ha => .cons (RepT.mono h h1 fun id hi => ha id (by simp [T.hass, hi])) (Reps.mono h ht fun id hi => ha id (by simp [T.hass, hi]))
end
end Go.Proofs.YtngklbnodknadaaGreatDoor
end

section
namespace Go.Proofs.YtngklbnodknadaaGreatDoor
def pow10V : List Value := (List.range 20).map fun i => .int .u64 ((10 ^ i : Nat) : Int)
def asciiV : List Value := (List.range 256).map fun i => .int .u8 (if i = 32 ∨ (9 ≤ i ∧ i ≤ 13) then 1 else 0)
/-- A variable that holds an error. -/
def errV (cs : List Value) : Prop := ∃ t p, cs = [.iface t p]
/-- A variable that holds some int. -/
def intV (cs : List Value) : Prop := ∃ m, cs = [.int .i64 m]
def infoV : List Value := [.int .u64 52, .int .u64 11, .int .i64 (-1023)]
def pow10TabV : List Value := Go.Pinned.pow10Rows.flatMap fun x => [.int .u64 (x.1 : Int), .int .u64 (x.2 : Int)]
def tabs : List (Nat × (List Value → Prop)) :=
  (0, (· = asciiV)) ::
  (4, errV) ::
  (5, errV) ::
  (14, (· = pow10V)) ::
  (1, intV) ::
  (7, (· = [.bool true])) ::
  (8, (· = infoV)) ::
  (12, (· = pow10TabV)) ::
  []
def leftV : List Value := (List.range 61).flatMap fun k => [.int .i64 ((if k = 0 then 0 else Lib.nDigits (2 ^ k) : Nat) : Int), .string ⟨(if k = 0 then [] else Lib.decDigits (5 ^ k)).toArray⟩]
def powV : List Value := [1, 3, 6, 9, 13, 16, 19, 23, 26].map fun i : Nat => .int .i64 (i : Int)
/-- The words of the first powers of ten. -/
def f10W : List Nat := [4607182418800017408, 4621819117588971520, 4636737291354636288, 4652007308841189376, 4666723172467343360, 4681608360884174848, 4696837146684686336, 4711630319722168320, 4726483295884279808, 4741671816366391296, 4756540486875873280, 4771362005757984768, 4786511204640096256, 4801453603149578240, 4816244402031689728, 4831355200913801216, 4846369599423283200, 4861130398305394688, 4876203697187506176, 4891288408196988160, 4906019910204099648, 4921056587992461136, 4936209963552724370]
def f10V : List Value := f10W.map fun n => .float .f64 n
/-- Slices: the variable, how many elements, their cells. -/
def stabs : List (Nat × Nat × List Value) :=
  (13, 61, leftV) ::
  (10, 9, powV) ::
  (11, 23, f10V) ::
  []
/-- Where such a slice leads. -/
def STab (w : World) (p : Nat × Nat × List Value) (b : Nat) : Prop := ∃ (off c : Nat) (t : TypeId) (fr : Nat × Nat), w.heap[p.1]? = some (.cells #[.slice (some ⟨b, off, none⟩) p.2.1 c] t fr) ∧ p.2.1 ≤ c ∧ c ≤ 9223372036854775807 ∧ b < w.heap.size ∧ ∀ i, i < p.2.2.length → w.cell? ⟨b, off + i, none⟩ = p.2.2[i]?
/-- The tables' blocks. -/
def TabB (w : World) (b : Nat) : Prop := (∃ p ∈ tabs, p.1 = b) ∨ ∃ p ∈ stabs, p.1 = b ∨ STab w p b
structure TabsIn (w : World) : Prop where
  one : ∀ p ∈ tabs, ∃ (cs : List Value) (t : TypeId) (fr : Nat × Nat), p.2 cs ∧ w.heap[p.1]? = some (.cells cs.toArray t fr)
  sl : ∀ p ∈ stabs, ∃ b, STab w p b
end Go.Proofs.YtngklbnodknadaaGreatDoor
end
