/-
  Structs of 3 numbers; a slice that reads as a list of them; an argument opened.
-/
import Derived.Test.YtfcimbhjoioinaaRows
import Derived.Test.YtfcimbhjoioinaaOpen
import Derived.Deep.Slices
import Derived.Deep.Fields
import Derived.ChangeSame
namespace Go.Proofs.Ytfcimbhjoioinaa
open Go.ChangeShapes Go.WideShapes Go.ChangeAt Go.RowKit Go.Deep

structure Dw where
  t : Int
  f : Int
  k : Int
deriving DecidableEq

abbrev Dw.z : Dw := ⟨0, 0, 0⟩
def Dw.cells (e : Dw) : List Value := [.int .i64 e.t, .int .i64 e.f, .int .i64 e.k]
abbrev Dw.val (e : Dw) : Value := .agg #[.int .i64 e.t, .int .i64 e.f, .int .i64 e.k]
def dws (l : List Dw) : List Value := l.flatMap Dw.cells
@[simp] theorem Dw.cells_length (e : Dw) : e.cells.length = 3 := rfl
@[simp] theorem dws_nil : dws [] = [] := rfl
theorem dws_cons (e : Dw) (l : List Dw) : dws (e :: l) = e.cells ++ dws l := by simp [dws]
theorem dws_append (l m : List Dw) : dws (l ++ m) = dws l ++ dws m := by simp [dws]
theorem dws_single (e : Dw) : dws [e] = e.cells := by simp [dws]
@[simp] theorem dws_length (l : List Dw) : (dws l).length = l.length * 3 := by
  induction l with
  | nil => rfl
  | cons e l ih => rw [dws_cons, List.length_append, ih, Dw.cells_length, List.length_cons]; omega
theorem dws_take (l : List Dw) (n : Nat) : dws (l.take n) = (dws l).take (n * 3) := by
  induction l generalizing n with
  | nil => simp
  | cons e l ih =>
    cases n with
    | zero => simp
    | succ n =>
      rw [List.take_succ_cons, dws_cons, dws_cons, ih, List.take_append, Dw.cells_length, show (n + 1) * 3 - 3 = n * 3 from by omega, List.take_of_length_le (l := e.cells) (by simp; omega)]
theorem dws_drop (l : List Dw) (n : Nat) : dws (l.drop n) = (dws l).drop (n * 3) := by
  induction l generalizing n with
  | nil => simp
  | cons e l ih =>
    cases n with
    | zero => simp
    | succ n => rw [List.drop_succ_cons, dws_cons, ih, List.drop_append, Dw.cells_length, show (n + 1) * 3 - 3 = n * 3 from by omega, List.drop_of_length_le (l := e.cells) (by simp; omega), List.nil_append]
theorem dws_get {l : List Dw} {i j : Nat} (hi : i < l.length) (hj : j < 3) : (dws l)[i * 3 + j]? = (l.getD i .z).cells[j]? := by
  induction l generalizing i with
  | nil => simp at hi
  | cons e l ih =>
    rw [dws_cons]
    cases i with
    | zero => rw [Nat.zero_mul, Nat.zero_add, List.getElem?_append_left (by simpa using hj)]; rfl
    | succ i =>
      rw [List.getElem?_append_right (by simp; omega), Dw.cells_length, show (i + 1) * 3 + j - 3 = i * 3 + j from by omega, ih (by simpa using hi)]
      rfl
theorem dws_one {l : List Dw} : ∀ u ∈ dws l, u.oneCell' = true := by
  intro u hu
  obtain ⟨e, -, h⟩ := List.mem_flatMap.1 hu
  simp only [Dw.cells, List.mem_cons, List.not_mem_nil, or_false] at h
  rcases h with rfl | rfl | rfl <;> rfl

/-- The cells of one. -/
structure DwAt (w : World) (b off : Nat) (e : Dw) : Prop where
  h0 : w.cell? ⟨b, off, none⟩ = some (.int .i64 e.t)
  h1 : w.cell? ⟨b, off + 1, none⟩ = some (.int .i64 e.f)
  h2 : w.cell? ⟨b, off + 2, none⟩ = some (.int .i64 e.k)

theorem DwAt.below {w w' : World} {b off B : Nat} {e : Dw} (h : DwAt w b off e) (hw : Below B w w') (hb : b < B) : DwAt w' b off e :=
  ⟨(hw.cell (p := ⟨b, _, none⟩) hb).trans h.h0, (hw.cell (p := ⟨b, _, none⟩) hb).trans h.h1, (hw.cell (p := ⟨b, _, none⟩) hb).trans h.h2⟩
theorem DwAt.lt {w : World} {b off : Nat} {e : Dw} (h : DwAt w b off e) : b < w.heap.size := World.block_lt_of_cell? w ⟨b, off, none⟩ h.h0
theorem Sl.dws_at {w : World} {b off n cap i : Nat} {l : List Dw} (h : Sl w 3 (some ⟨b, off, none⟩) n cap (dws l)) (hi : i < l.length) : DwAt w b (off + i * 3) (l.getD i .z) := by
  have key : ∀ j (v : Value), j < 3 → (l.getD i .z).cells[j]? = some v → w.cell? ⟨b, off + i * 3 + j, none⟩ = some v := fun j v hj hv => by
    rw [Nat.add_assoc]
    exact h.row.at_ (by rw [dws_get hi hj]; exact hv)
  exact ⟨key 0 _ (by omega) rfl, key 1 _ (by omega) rfl, key 2 _ (by omega) rfl⟩
/-- The pointer too. -/
theorem Sl.dws_ptr {w : World} {n cap i : Nat} {p : Option Addr} {l : List Dw} (h : Sl w 3 p n cap (dws l)) (hi : i < l.length) : ∃ b off, p = some ⟨b, off, none⟩ ∧ b < w.heap.size ∧ DwAt w b (off + i * 3) (l.getD i .z) := by
  obtain ⟨b, off, rfl, hb, -⟩ := h.row.cons (by simp; omega)
  exact ⟨b, off, rfl, hb, h.dws_at hi⟩
theorem Sl.dws_len {w : World} {n cap : Nat} {p : Option Addr} {l : List Dw} (h : Sl w 3 p n cap (dws l)) : n = l.length := by
  have := h.len
  rw [dws_length] at this
  omega
theorem Sl.tk_dws {w : World} {n cap m : Nat} {p : Option Addr} {l : List Dw} (h : Sl w 3 p n cap (dws l)) (hm : m ≤ n) : Sl w 3 p m cap (dws (l.take m)) := by
  rw [dws_take]; exact h.take hm

structure Dw.Wf (e : Dw) : Prop where
  t : (Lit.int .i64 e.t).wf = true
  f : (Lit.int .i64 e.f).wf = true
  k : (Lit.int .i64 e.k).wf = true

section
variable {H : Type} {enc : TypeId × Value → H} {w : World} {base : Nat} {spare : Nat → Bool} {held : Bool} {fuel : Nat}
theorem trod_one_dws {t : TypeId} (ht : Try.prog.underlying t = some (.int .i64)) {xs : List (DataW H × List MemPlace)} {i : Nat} (hi : i < xs.length) {v : Value}
    (h : DataW.trod enc Try.prog w base spare held fuel t [v] = xs[i]?) : ∃ n, v = .int .i64 n ∧ (Lit.int .i64 n).wf = true := by
  rw [List.getElem?_eq_getElem hi] at h
  obtain ⟨n, h1, -, h2⟩ := DataW.trod_int ht h
  exact ⟨n, by simpa using h1, h2⟩

theorem trod_dws {cs : List Value} {x : DataW H × List MemPlace} (h : DataW.trod enc Try.prog w base spare held fuel 30 cs = some x) : ∃ e : Dw, cs = e.cells ∧ e.Wf := by
  obtain ⟨xs, n', -, -, hcl, hlen, hf⟩ := DataW.trod_struct Try.underlying30 h
  have hc3 : Try.prog.cellsOf 3 = 1 := by kernel_rfl
  have hce : Try.prog.cellsOf 30 = 3 := by kernel_rfl
  rw [hce] at hcl
  rcases cs with _ | ⟨a0, cs⟩ <;> simp at hcl
  rcases cs with _ | ⟨a1, cs⟩ <;> simp at hcl
  rcases cs with _ | ⟨a2, cs⟩ <;> simp at hcl
  subst hcl
  have h0 : DataW.trod enc Try.prog w base spare held n' 3 (([a0, a1, a2].drop 0).take (Try.prog.cellsOf 3)) = xs[0]? := hf 0 _ rfl
  have h1 : DataW.trod enc Try.prog w base spare held n' 3 (([a0, a1, a2].drop 1).take (Try.prog.cellsOf 3)) = xs[1]? := hf 1 _ rfl
  have h2 : DataW.trod enc Try.prog w base spare held n' 3 (([a0, a1, a2].drop 2).take (Try.prog.cellsOf 3)) = xs[2]? := hf 2 _ rfl
  rw [hc3] at h0 h1 h2
  obtain ⟨n0, rfl, w0⟩ := trod_one_dws Try.underlying3 (by rw [hlen]; decide) h0
  obtain ⟨n1, rfl, w1⟩ := trod_one_dws Try.underlying3 (by rw [hlen]; decide) h1
  obtain ⟨n2, rfl, w2⟩ := trod_one_dws Try.underlying3 (by rw [hlen]; decide) h2
  exact ⟨⟨n0, n1, n2⟩, rfl, ⟨w0, w1, w2⟩⟩

theorem open_dws {v : Value} {d : DataW H} {ps : List MemPlace} {r : Reach} {b0 : Nat} (hv : Value.okWide Try.prog w r b0 22 v) (h : DataW.Trod enc Try.prog w base spare held 22 v d ps) :
    ∃ (p : Option Addr) (cap : Nat) (l : List Dw), v = .slice p l.length cap ∧ Sl w 3 p l.length cap (dws l) ∧ ∀ e ∈ l, e.Wf := by
  obtain ⟨a0, len, cap, rfl⟩ := okWide_slice Try.underlying22 hv
  obtain ⟨fuel, hf⟩ := h
  rcases open_slice Try.underlying22 hf with ⟨hcs, -⟩ | ⟨a, len', cap', m, n, D, Pl, hcs, -, hl, hm, hmm, -, hall⟩
  · simp [Value.cells] at hcs
    obtain ⟨rfl, rfl, rfl⟩ := hcs
    exact ⟨none, 0, [], rfl, Sl.zero _ _, fun x hx => by simp at hx⟩
  · simp [Value.cells] at hcs
    obtain ⟨rfl, rfl, rfl⟩ := hcs
    have hce : Try.prog.cellsOf 30 = 3 := by kernel_rfl
    have hlm : len ≤ m := by rw [hmm]; split <;> omega
    have key : ∀ i, i < len → ∃ e : Dw, e.Wf ∧ ∀ j, j < 3 → w.cell? (a.add (i * 3 + j)) = e.cells[j]? := by
      intro i hi
      obtain ⟨cs', hc, ht⟩ := hall i (by omega)
      rw [hce] at hc
      obtain ⟨e, rfl, hw⟩ := trod_dws ht
      obtain ⟨-, -, hat⟩ := World.cells?_some hc
      refine ⟨e, hw, fun j hj => ?_⟩
      have := hat j hj
      rw [← this, Go.Deep.add_add]
    obtain ⟨l, hl1, hl2⟩ : ∃ l : List Dw, l.length = len ∧ ∀ i, i < len → (l.getD i .z).Wf ∧ ∀ j, j < 3 → w.cell? (a.add (i * 3 + j)) = (l.getD i .z).cells[j]? := by
      refine ⟨(List.range len).map fun i => if h : i < len then (key i h).choose else .z, by simp, fun i hi => ?_⟩
      have hs := (key i hi).choose_spec
      have e : ((List.range len).map fun i => if h : i < len then (key i h).choose else Dw.z).getD i .z = (key i hi).choose := by simp [hi]
      rw [e]
      exact hs
    subst hl1
    refine ⟨some a, cap, l, rfl, ⟨?_, by simp, by omega, by unfold maxLen at hm; exact hm, fun h => by cases h⟩, fun e he => ?_⟩
    · by_cases h0 : 0 < l.length
      · obtain ⟨b, off, spot⟩ := a
        have h1 := (hl2 0 h0).2 0 (by omega)
        have h1' : w.cell? (Addr.add ⟨b, off, spot⟩ (0 * 3 + 0)) = some (.int .i64 (l.getD 0 .z).t) := h1
        have hs : spot = none := by simpa [Addr.add] using World.cell?_spot h1'
        subst hs
        have hb : b < w.heap.size := World.block_lt_of_cell? w ⟨b, off, none⟩ (by simpa [Addr.add] using h1')
        refine ⟨b, off, fun _ => ⟨rfl, hb⟩, fun i hi => ?_⟩
        rw [dws_length] at hi
        have hi12 : i / 3 < l.length := by omega
        have hc := (hl2 (i / 3) hi12).2 (i % 3) (by omega)
        rw [add_lit', show i / 3 * 3 + i % 3 = i from by omega] at hc
        rw [hc, ← dws_get hi12 (by omega), show i / 3 * 3 + i % 3 = i from by omega]
      · have e : l = [] := List.eq_nil_of_length_eq_zero (by omega)
        rw [e]
        exact RowAt.nil _ _
    · obtain ⟨i, hi, rfl⟩ := List.getElem_of_mem he
      have := (hl2 i hi).1
      rw [List.getD_eq_getElem?_getD, List.getElem?_eq_getElem hi] at this
      exact this
end
end Go.Proofs.Ytfcimbhjoioinaa
