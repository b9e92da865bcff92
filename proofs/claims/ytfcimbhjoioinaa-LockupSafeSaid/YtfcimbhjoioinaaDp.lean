/-
  Structs of 2 numbers; a slice that reads as a list of them; an argument opened.
-/
import Derived.Test.YtfcimbhjoioinaaRows
import Derived.Test.YtfcimbhjoioinaaOpen
import Derived.Deep.Slices
import Derived.Deep.Fields
import Derived.ChangeSame
namespace Go.Proofs.Ytfcimbhjoioinaa
open Go.ChangeShapes Go.WideShapes Go.ChangeAt Go.RowKit Go.Deep

structure Dp where
  i : Int
  j : Int
deriving DecidableEq

abbrev Dp.z : Dp := ⟨0, 0⟩
def Dp.cells (e : Dp) : List Value := [.int .i64 e.i, .int .i64 e.j]
abbrev Dp.val (e : Dp) : Value := .agg #[.int .i64 e.i, .int .i64 e.j]
def dps (l : List Dp) : List Value := l.flatMap Dp.cells
@[simp] theorem Dp.cells_length (e : Dp) : e.cells.length = 2 := rfl
@[simp] theorem dps_nil : dps [] = [] := rfl
theorem dps_cons (e : Dp) (l : List Dp) : dps (e :: l) = e.cells ++ dps l := by simp [dps]
theorem dps_append (l m : List Dp) : dps (l ++ m) = dps l ++ dps m := by simp [dps]
theorem dps_single (e : Dp) : dps [e] = e.cells := by simp [dps]
@[simp] theorem dps_length (l : List Dp) : (dps l).length = l.length * 2 := by
  induction l with
  | nil => rfl
  | cons e l ih => rw [dps_cons, List.length_append, ih, Dp.cells_length, List.length_cons]; omega
theorem dps_take (l : List Dp) (n : Nat) : dps (l.take n) = (dps l).take (n * 2) := by
  induction l generalizing n with
  | nil => simp
  | cons e l ih =>
    cases n with
    | zero => simp
    | succ n =>
      rw [List.take_succ_cons, dps_cons, dps_cons, ih, List.take_append, Dp.cells_length, show (n + 1) * 2 - 2 = n * 2 from by omega, List.take_of_length_le (l := e.cells) (by simp; omega)]
theorem dps_drop (l : List Dp) (n : Nat) : dps (l.drop n) = (dps l).drop (n * 2) := by
  induction l generalizing n with
  | nil => simp
  | cons e l ih =>
    cases n with
    | zero => simp
    | succ n => rw [List.drop_succ_cons, dps_cons, ih, List.drop_append, Dp.cells_length, show (n + 1) * 2 - 2 = n * 2 from by omega, List.drop_of_length_le (l := e.cells) (by simp; omega), List.nil_append]
theorem dps_get {l : List Dp} {i j : Nat} (hi : i < l.length) (hj : j < 2) : (dps l)[i * 2 + j]? = (l.getD i .z).cells[j]? := by
  induction l generalizing i with
  | nil => simp at hi
  | cons e l ih =>
    rw [dps_cons]
    cases i with
    | zero => rw [Nat.zero_mul, Nat.zero_add, List.getElem?_append_left (by simpa using hj)]; rfl
    | succ i =>
      rw [List.getElem?_append_right (by simp; omega), Dp.cells_length, show (i + 1) * 2 + j - 2 = i * 2 + j from by omega, ih (by simpa using hi)]
      rfl
theorem dps_one {l : List Dp} : ∀ u ∈ dps l, u.oneCell' = true := by
  intro u hu
  obtain ⟨e, -, h⟩ := List.mem_flatMap.1 hu
  simp only [Dp.cells, List.mem_cons, List.not_mem_nil, or_false] at h
  rcases h with rfl | rfl <;> rfl

/-- The cells of one. -/
structure DpAt (w : World) (b off : Nat) (e : Dp) : Prop where
  h0 : w.cell? ⟨b, off, none⟩ = some (.int .i64 e.i)
  h1 : w.cell? ⟨b, off + 1, none⟩ = some (.int .i64 e.j)

theorem DpAt.below {w w' : World} {b off B : Nat} {e : Dp} (h : DpAt w b off e) (hw : Below B w w') (hb : b < B) : DpAt w' b off e :=
  ⟨(hw.cell (p := ⟨b, _, none⟩) hb).trans h.h0, (hw.cell (p := ⟨b, _, none⟩) hb).trans h.h1⟩
theorem DpAt.lt {w : World} {b off : Nat} {e : Dp} (h : DpAt w b off e) : b < w.heap.size := World.block_lt_of_cell? w ⟨b, off, none⟩ h.h0
theorem Sl.dps_at {w : World} {b off n cap i : Nat} {l : List Dp} (h : Sl w 2 (some ⟨b, off, none⟩) n cap (dps l)) (hi : i < l.length) : DpAt w b (off + i * 2) (l.getD i .z) := by
  have key : ∀ j (v : Value), j < 2 → (l.getD i .z).cells[j]? = some v → w.cell? ⟨b, off + i * 2 + j, none⟩ = some v := fun j v hj hv => by
    rw [Nat.add_assoc]
    exact h.row.at_ (by rw [dps_get hi hj]; exact hv)
  exact ⟨key 0 _ (by omega) rfl, key 1 _ (by omega) rfl⟩
/-- The pointer too. -/
theorem Sl.dps_ptr {w : World} {n cap i : Nat} {p : Option Addr} {l : List Dp} (h : Sl w 2 p n cap (dps l)) (hi : i < l.length) : ∃ b off, p = some ⟨b, off, none⟩ ∧ b < w.heap.size ∧ DpAt w b (off + i * 2) (l.getD i .z) := by
  obtain ⟨b, off, rfl, hb, -⟩ := h.row.cons (by simp; omega)
  exact ⟨b, off, rfl, hb, h.dps_at hi⟩
theorem Sl.dps_len {w : World} {n cap : Nat} {p : Option Addr} {l : List Dp} (h : Sl w 2 p n cap (dps l)) : n = l.length := by
  have := h.len
  rw [dps_length] at this
  omega
theorem Sl.tk_dps {w : World} {n cap m : Nat} {p : Option Addr} {l : List Dp} (h : Sl w 2 p n cap (dps l)) (hm : m ≤ n) : Sl w 2 p m cap (dps (l.take m)) := by
  rw [dps_take]; exact h.take hm

structure Dp.Wf (e : Dp) : Prop where
  i : (Lit.int .i64 e.i).wf = true
  j : (Lit.int .i64 e.j).wf = true

section
variable {H : Type} {enc : TypeId × Value → H} {w : World} {base : Nat} {spare : Nat → Bool} {held : Bool} {fuel : Nat}
theorem trod_one_dps {t : TypeId} (ht : Try.prog.underlying t = some (.int .i64)) {xs : List (DataW H × List MemPlace)} {i : Nat} (hi : i < xs.length) {v : Value}
    (h : DataW.trod enc Try.prog w base spare held fuel t [v] = xs[i]?) : ∃ n, v = .int .i64 n ∧ (Lit.int .i64 n).wf = true := by
  rw [List.getElem?_eq_getElem hi] at h
  obtain ⟨n, h1, -, h2⟩ := DataW.trod_int ht h
  exact ⟨n, by simpa using h1, h2⟩

theorem trod_dps {cs : List Value} {x : DataW H × List MemPlace} (h : DataW.trod enc Try.prog w base spare held fuel 32 cs = some x) : ∃ e : Dp, cs = e.cells ∧ e.Wf := by
  obtain ⟨xs, n', -, -, hcl, hlen, hf⟩ := DataW.trod_struct Try.underlying32 h
  have hc3 : Try.prog.cellsOf 3 = 1 := by kernel_rfl
  have hce : Try.prog.cellsOf 32 = 2 := by kernel_rfl
  rw [hce] at hcl
  rcases cs with _ | ⟨a0, cs⟩ <;> simp at hcl
  rcases cs with _ | ⟨a1, cs⟩ <;> simp at hcl
  subst hcl
  have h0 : DataW.trod enc Try.prog w base spare held n' 3 (([a0, a1].drop 0).take (Try.prog.cellsOf 3)) = xs[0]? := hf 0 _ rfl
  have h1 : DataW.trod enc Try.prog w base spare held n' 3 (([a0, a1].drop 1).take (Try.prog.cellsOf 3)) = xs[1]? := hf 1 _ rfl
  rw [hc3] at h0 h1
  obtain ⟨n0, rfl, w0⟩ := trod_one_dps Try.underlying3 (by rw [hlen]; decide) h0
  obtain ⟨n1, rfl, w1⟩ := trod_one_dps Try.underlying3 (by rw [hlen]; decide) h1
  exact ⟨⟨n0, n1⟩, rfl, ⟨w0, w1⟩⟩

theorem open_dps {v : Value} {d : DataW H} {ps : List MemPlace} {r : Reach} {b0 : Nat} (hv : Value.okWide Try.prog w r b0 28 v) (h : DataW.Trod enc Try.prog w base spare held 28 v d ps) :
    ∃ (p : Option Addr) (cap : Nat) (l : List Dp), v = .slice p l.length cap ∧ Sl w 2 p l.length cap (dps l) ∧ ∀ e ∈ l, e.Wf := by
  obtain ⟨a0, len, cap, rfl⟩ := okWide_slice Try.underlying28 hv
  obtain ⟨fuel, hf⟩ := h
  rcases open_slice Try.underlying28 hf with ⟨hcs, -⟩ | ⟨a, len', cap', m, n, D, Pl, hcs, -, hl, hm, hmm, -, hall⟩
  · simp [Value.cells] at hcs
    obtain ⟨rfl, rfl, rfl⟩ := hcs
    exact ⟨none, 0, [], rfl, Sl.zero _ _, fun x hx => by simp at hx⟩
  · simp [Value.cells] at hcs
    obtain ⟨rfl, rfl, rfl⟩ := hcs
    have hce : Try.prog.cellsOf 32 = 2 := by kernel_rfl
    have hlm : len ≤ m := by rw [hmm]; split <;> omega
    have key : ∀ i, i < len → ∃ e : Dp, e.Wf ∧ ∀ j, j < 2 → w.cell? (a.add (i * 2 + j)) = e.cells[j]? := by
      intro i hi
      obtain ⟨cs', hc, ht⟩ := hall i (by omega)
      rw [hce] at hc
      obtain ⟨e, rfl, hw⟩ := trod_dps ht
      obtain ⟨-, -, hat⟩ := World.cells?_some hc
      refine ⟨e, hw, fun j hj => ?_⟩
      have := hat j hj
      rw [← this, Go.Deep.add_add]
    obtain ⟨l, hl1, hl2⟩ : ∃ l : List Dp, l.length = len ∧ ∀ i, i < len → (l.getD i .z).Wf ∧ ∀ j, j < 2 → w.cell? (a.add (i * 2 + j)) = (l.getD i .z).cells[j]? := by
      refine ⟨(List.range len).map fun i => if h : i < len then (key i h).choose else .z, by simp, fun i hi => ?_⟩
      have hs := (key i hi).choose_spec
      have e : ((List.range len).map fun i => if h : i < len then (key i h).choose else Dp.z).getD i .z = (key i hi).choose := by simp [hi]
      rw [e]
      exact hs
    subst hl1
    refine ⟨some a, cap, l, rfl, ⟨?_, by simp, by omega, by unfold maxLen at hm; exact hm, fun h => by cases h⟩, fun e he => ?_⟩
    · by_cases h0 : 0 < l.length
      · obtain ⟨b, off, spot⟩ := a
        have h1 := (hl2 0 h0).2 0 (by omega)
        have h1' : w.cell? (Addr.add ⟨b, off, spot⟩ (0 * 2 + 0)) = some (.int .i64 (l.getD 0 .z).i) := h1
        have hs : spot = none := by simpa [Addr.add] using World.cell?_spot h1'
        subst hs
        have hb : b < w.heap.size := World.block_lt_of_cell? w ⟨b, off, none⟩ (by simpa [Addr.add] using h1')
        refine ⟨b, off, fun _ => ⟨rfl, hb⟩, fun i hi => ?_⟩
        rw [dps_length] at hi
        have hi12 : i / 2 < l.length := by omega
        have hc := (hl2 (i / 2) hi12).2 (i % 2) (by omega)
        rw [add_lit', show i / 2 * 2 + i % 2 = i from by omega] at hc
        rw [hc, ← dps_get hi12 (by omega), show i / 2 * 2 + i % 2 = i from by omega]
      · have e : l = [] := List.eq_nil_of_length_eq_zero (by omega)
        rw [e]
        exact RowAt.nil _ _
    · obtain ⟨i, hi, rfl⟩ := List.getElem_of_mem he
      have := (hl2 i hi).1
      rw [List.getD_eq_getElem?_getD, List.getElem?_eq_getElem hi] at this
      exact this
end
end Go.Proofs.Ytfcimbhjoioinaa
