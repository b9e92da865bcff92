/-
  Structs of 4 numbers; a slice that reads as a list of them; an argument opened.
-/
import Derived.Test.YtjabhkpifpcccaaRows
import Derived.Test.YtjabhkpifpcccaaOpen
import Derived.Deep.Slices
import Derived.Deep.Fields
import Derived.ChangeSame
namespace Go.Proofs.Ytjabhkpifpcccaa
open Go.ChangeShapes Go.WideShapes Go.ChangeAt Go.RowKit Go.Deep

structure Ln where
  t : Int
  o : Int
  a : Int
  b : Int
deriving DecidableEq

abbrev Ln.z : Ln := ⟨0, 0, 0, 0⟩
def Ln.cells (e : Ln) : List Value := [.int .i64 e.t, .int .i64 e.o, .int .i64 e.a, .int .i64 e.b]
abbrev Ln.val (e : Ln) : Value := .agg #[.int .i64 e.t, .int .i64 e.o, .int .i64 e.a, .int .i64 e.b]
def lns (l : List Ln) : List Value := l.flatMap Ln.cells
@[simp] theorem Ln.cells_length (e : Ln) : e.cells.length = 4 := rfl
@[simp] theorem lns_nil : lns [] = [] := rfl
theorem lns_cons (e : Ln) (l : List Ln) : lns (e :: l) = e.cells ++ lns l := by simp [lns]
theorem lns_append (l m : List Ln) : lns (l ++ m) = lns l ++ lns m := by simp [lns]
theorem lns_single (e : Ln) : lns [e] = e.cells := by simp [lns]
@[simp] theorem lns_length (l : List Ln) : (lns l).length = l.length * 4 := by
  induction l with
  | nil => rfl
  | cons e l ih => rw [lns_cons, List.length_append, ih, Ln.cells_length, List.length_cons]; omega
theorem lns_take (l : List Ln) (n : Nat) : lns (l.take n) = (lns l).take (n * 4) := by
  induction l generalizing n with
  | nil => simp
  | cons e l ih =>
    cases n with
    | zero => simp
    | succ n =>
      rw [List.take_succ_cons, lns_cons, lns_cons, ih, List.take_append, Ln.cells_length, show (n + 1) * 4 - 4 = n * 4 from by omega, List.take_of_length_le (l := e.cells) (by simp; omega)]
theorem lns_drop (l : List Ln) (n : Nat) : lns (l.drop n) = (lns l).drop (n * 4) := by
  induction l generalizing n with
  | nil => simp
  | cons e l ih =>
    cases n with
    | zero => simp
    | succ n => rw [List.drop_succ_cons, lns_cons, ih, List.drop_append, Ln.cells_length, show (n + 1) * 4 - 4 = n * 4 from by omega, List.drop_of_length_le (l := e.cells) (by simp; omega), List.nil_append]
theorem lns_get {l : List Ln} {i j : Nat} (hi : i < l.length) (hj : j < 4) : (lns l)[i * 4 + j]? = (l.getD i .z).cells[j]? := by
  induction l generalizing i with
  | nil => simp at hi
  | cons e l ih =>
    rw [lns_cons]
    cases i with
    | zero => rw [Nat.zero_mul, Nat.zero_add, List.getElem?_append_left (by simpa using hj)]; rfl
    | succ i =>
      rw [List.getElem?_append_right (by simp; omega), Ln.cells_length, show (i + 1) * 4 + j - 4 = i * 4 + j from by omega, ih (by simpa using hi)]
      rfl
theorem lns_one {l : List Ln} : ∀ u ∈ lns l, u.oneCell' = true := by
  intro u hu
  obtain ⟨e, -, h⟩ := List.mem_flatMap.1 hu
  simp only [Ln.cells, List.mem_cons, List.not_mem_nil, or_false] at h
  rcases h with rfl | rfl | rfl | rfl <;> rfl

/-- The cells of one. -/
structure LnAt (w : World) (b off : Nat) (e : Ln) : Prop where
  h0 : w.cell? ⟨b, off, none⟩ = some (.int .i64 e.t)
  h1 : w.cell? ⟨b, off + 1, none⟩ = some (.int .i64 e.o)
  h2 : w.cell? ⟨b, off + 2, none⟩ = some (.int .i64 e.a)
  h3 : w.cell? ⟨b, off + 3, none⟩ = some (.int .i64 e.b)

theorem LnAt.below {w w' : World} {b off B : Nat} {e : Ln} (h : LnAt w b off e) (hw : Below B w w') (hb : b < B) : LnAt w' b off e :=
  ⟨(hw.cell (p := ⟨b, _, none⟩) hb).trans h.h0, (hw.cell (p := ⟨b, _, none⟩) hb).trans h.h1, (hw.cell (p := ⟨b, _, none⟩) hb).trans h.h2, (hw.cell (p := ⟨b, _, none⟩) hb).trans h.h3⟩
theorem LnAt.lt {w : World} {b off : Nat} {e : Ln} (h : LnAt w b off e) : b < w.heap.size := World.block_lt_of_cell? w ⟨b, off, none⟩ h.h0
theorem Sl.lns_at {w : World} {b off n cap i : Nat} {l : List Ln} (h : Sl w 4 (some ⟨b, off, none⟩) n cap (lns l)) (hi : i < l.length) : LnAt w b (off + i * 4) (l.getD i .z) := by
  have key : ∀ j (v : Value), j < 4 → (l.getD i .z).cells[j]? = some v → w.cell? ⟨b, off + i * 4 + j, none⟩ = some v := fun j v hj hv => by
    rw [Nat.add_assoc]
    exact h.row.at_ (by rw [lns_get hi hj]; exact hv)
  exact ⟨key 0 _ (by omega) rfl, key 1 _ (by omega) rfl, key 2 _ (by omega) rfl, key 3 _ (by omega) rfl⟩
/-- The pointer too. -/
theorem Sl.lns_ptr {w : World} {n cap i : Nat} {p : Option Addr} {l : List Ln} (h : Sl w 4 p n cap (lns l)) (hi : i < l.length) : ∃ b off, p = some ⟨b, off, none⟩ ∧ b < w.heap.size ∧ LnAt w b (off + i * 4) (l.getD i .z) := by
  obtain ⟨b, off, rfl, hb, -⟩ := h.row.cons (by simp; omega)
  exact ⟨b, off, rfl, hb, h.lns_at hi⟩
theorem Sl.lns_len {w : World} {n cap : Nat} {p : Option Addr} {l : List Ln} (h : Sl w 4 p n cap (lns l)) : n = l.length := by
  have := h.len
  rw [lns_length] at this
  omega
theorem Sl.tk_lns {w : World} {n cap m : Nat} {p : Option Addr} {l : List Ln} (h : Sl w 4 p n cap (lns l)) (hm : m ≤ n) : Sl w 4 p m cap (lns (l.take m)) := by
  rw [lns_take]; exact h.take hm

structure Ln.Wf (e : Ln) : Prop where
  t : (Lit.int .i64 e.t).wf = true
  o : (Lit.int .i64 e.o).wf = true
  a : (Lit.int .i64 e.a).wf = true
  b : (Lit.int .i64 e.b).wf = true

section
variable {H : Type} {enc : TypeId × Value → H} {w : World} {base : Nat} {spare : Nat → Bool} {held : Bool} {fuel : Nat}
theorem trod_one_lns {t : TypeId} (ht : Try.prog.underlying t = some (.int .i64)) {xs : List (DataW H × List MemPlace)} {i : Nat} (hi : i < xs.length) {v : Value}
    (h : DataW.trod enc Try.prog w base spare held fuel t [v] = xs[i]?) : ∃ n, v = .int .i64 n ∧ (Lit.int .i64 n).wf = true := by
  rw [List.getElem?_eq_getElem hi] at h
  obtain ⟨n, h1, -, h2⟩ := DataW.trod_int ht h
  exact ⟨n, by simpa using h1, h2⟩

theorem trod_lns {cs : List Value} {x : DataW H × List MemPlace} (h : DataW.trod enc Try.prog w base spare held fuel 41 cs = some x) : ∃ e : Ln, cs = e.cells ∧ e.Wf := by
  obtain ⟨xs, n', -, -, hcl, hlen, hf⟩ := DataW.trod_struct Try.underlying41 h
  have hc3 : Try.prog.cellsOf 3 = 1 := by kernel_rfl
  have hce : Try.prog.cellsOf 41 = 4 := by kernel_rfl
  rw [hce] at hcl
  rcases cs with _ | ⟨a0, cs⟩ <;> simp at hcl
  rcases cs with _ | ⟨a1, cs⟩ <;> simp at hcl
  rcases cs with _ | ⟨a2, cs⟩ <;> simp at hcl
  rcases cs with _ | ⟨a3, cs⟩ <;> simp at hcl
  subst hcl
  have h0 : DataW.trod enc Try.prog w base spare held n' 3 (([a0, a1, a2, a3].drop 0).take (Try.prog.cellsOf 3)) = xs[0]? := hf 0 _ rfl
  have h1 : DataW.trod enc Try.prog w base spare held n' 3 (([a0, a1, a2, a3].drop 1).take (Try.prog.cellsOf 3)) = xs[1]? := hf 1 _ rfl
  have h2 : DataW.trod enc Try.prog w base spare held n' 3 (([a0, a1, a2, a3].drop 2).take (Try.prog.cellsOf 3)) = xs[2]? := hf 2 _ rfl
  have h3 : DataW.trod enc Try.prog w base spare held n' 3 (([a0, a1, a2, a3].drop 3).take (Try.prog.cellsOf 3)) = xs[3]? := hf 3 _ rfl
  rw [hc3] at h0 h1 h2 h3
  obtain ⟨n0, rfl, w0⟩ := trod_one_lns Try.underlying3 (by rw [hlen]; decide) h0
  obtain ⟨n1, rfl, w1⟩ := trod_one_lns Try.underlying3 (by rw [hlen]; decide) h1
  obtain ⟨n2, rfl, w2⟩ := trod_one_lns Try.underlying3 (by rw [hlen]; decide) h2
  obtain ⟨n3, rfl, w3⟩ := trod_one_lns Try.underlying3 (by rw [hlen]; decide) h3
  exact ⟨⟨n0, n1, n2, n3⟩, rfl, ⟨w0, w1, w2, w3⟩⟩

theorem open_lns {v : Value} {d : DataW H} {ps : List MemPlace} {r : Reach} {b0 : Nat} (hv : Value.okWide Try.prog w r b0 22 v) (h : DataW.Trod enc Try.prog w base spare held 22 v d ps) :
    ∃ (p : Option Addr) (cap : Nat) (l : List Ln), v = .slice p l.length cap ∧ Sl w 4 p l.length cap (lns l) ∧ ∀ e ∈ l, e.Wf := by
  obtain ⟨a0, len, cap, rfl⟩ := okWide_slice Try.underlying22 hv
  obtain ⟨fuel, hf⟩ := h
  rcases open_slice Try.underlying22 hf with ⟨hcs, -⟩ | ⟨a, len', cap', m, n, D, Pl, hcs, -, hl, hm, hmm, -, hall⟩
  · simp [Value.cells] at hcs
    obtain ⟨rfl, rfl, rfl⟩ := hcs
    exact ⟨none, 0, [], rfl, Sl.zero _ _, fun x hx => by simp at hx⟩
  · simp [Value.cells] at hcs
    obtain ⟨rfl, rfl, rfl⟩ := hcs
    have hce : Try.prog.cellsOf 41 = 4 := by kernel_rfl
    have hlm : len ≤ m := by rw [hmm]; split <;> omega
    have key : ∀ i, i < len → ∃ e : Ln, e.Wf ∧ ∀ j, j < 4 → w.cell? (a.add (i * 4 + j)) = e.cells[j]? := by
      intro i hi
      obtain ⟨cs', hc, ht⟩ := hall i (by omega)
      rw [hce] at hc
      obtain ⟨e, rfl, hw⟩ := trod_lns ht
      obtain ⟨-, -, hat⟩ := World.cells?_some hc
      refine ⟨e, hw, fun j hj => ?_⟩
      have := hat j hj
      rw [← this, Go.Deep.add_add]
    obtain ⟨l, hl1, hl2⟩ : ∃ l : List Ln, l.length = len ∧ ∀ i, i < len → (l.getD i .z).Wf ∧ ∀ j, j < 4 → w.cell? (a.add (i * 4 + j)) = (l.getD i .z).cells[j]? := by
      refine ⟨(List.range len).map fun i => if h : i < len then (key i h).choose else .z, by simp, fun i hi => ?_⟩
      have hs := (key i hi).choose_spec
      have e : ((List.range len).map fun i => if h : i < len then (key i h).choose else Ln.z).getD i .z = (key i hi).choose := by simp [hi]
      rw [e]
      exact hs
    subst hl1
    refine ⟨some a, cap, l, rfl, ⟨?_, by simp, by omega, by unfold maxLen at hm; exact hm, fun h => by cases h⟩, fun e he => ?_⟩
    · by_cases h0 : 0 < l.length
      · obtain ⟨b, off, spot⟩ := a
        have h1 := (hl2 0 h0).2 0 (by omega)
        have h1' : w.cell? (Addr.add ⟨b, off, spot⟩ (0 * 4 + 0)) = some (.int .i64 (l.getD 0 .z).t) := h1
        have hs : spot = none := by simpa [Addr.add] using World.cell?_spot h1'
        subst hs
        have hb : b < w.heap.size := World.block_lt_of_cell? w ⟨b, off, none⟩ (by simpa [Addr.add] using h1')
        refine ⟨b, off, fun _ => ⟨rfl, hb⟩, fun i hi => ?_⟩
        rw [lns_length] at hi
        have hi12 : i / 4 < l.length := by omega
        have hc := (hl2 (i / 4) hi12).2 (i % 4) (by omega)
        rw [add_lit', show i / 4 * 4 + i % 4 = i from by omega] at hc
        rw [hc, ← lns_get hi12 (by omega), show i / 4 * 4 + i % 4 = i from by omega]
      · have e : l = [] := List.eq_nil_of_length_eq_zero (by omega)
        rw [e]
        exact RowAt.nil _ _
    · obtain ⟨i, hi, rfl⟩ := List.getElem_of_mem he
      have := (hl2 i hi).1
      rw [List.getD_eq_getElem?_getD, List.getElem?_eq_getElem hi] at this
      exact this
end
end Go.Proofs.Ytjabhkpifpcccaa
