/-
  A slice of slices of numbers (each in a struct of one field); an argument opened.
-/
import Derived.Test.YtoillodfabdeeaaRows
import Derived.Test.YtoillodfabdeeaaOpen
import Derived.Test.YtoillodfabdeeaaInts
import Derived.Deep.Slices
import Derived.Deep.Fields
import Derived.ChangeSame
namespace Go.Proofs.Ytoillodfabdeeaa
open Go.ChangeShapes Go.WideShapes Go.ChangeAt Go.RowKit Go.Deep

/-- A slice among several: where it begins, its room, its numbers. -/
structure Pt where
  p : Option Addr
  cap : Nat
  l : List Int
abbrev Pt.val (x : Pt) : Value := .slice x.p x.l.length x.cap
abbrev Pt.none : Pt := ⟨Option.none, 0, []⟩
def pts (ps : List Pt) : List Value := ps.map Pt.val
@[simp] theorem pts_length (ps : List Pt) : (pts ps).length = ps.length := by simp [pts]
theorem pts_get {ps : List Pt} {i : Nat} (h : i < ps.length) : (pts ps)[i]? = some (ps.getD i .none).val := by simp [pts, h]
def PtOk (w : World) (x : Pt) : Prop := Sl w 1 x.p x.l.length x.cap (ints .i64 x.l)
structure Deps (w : World) (p : Option Addr) (cap : Nat) (ps : List Pt) : Prop where
  sl : Sl w 1 p ps.length cap (pts ps)
  each : ∀ i, i < ps.length → PtOk w (ps.getD i .none)
theorem Deps.below {w w' : World} {p : Option Addr} {cap : Nat} {ps : List Pt} (h : Deps w p cap ps) (hb : Below w.heap.size w w') : Deps w' p cap ps :=
  ⟨h.sl.below hb, fun i hi => Sl.below (h.each i hi) hb⟩
theorem Deps.at_ {w : World} {p : Option Addr} {cap : Nat} {ps : List Pt} (h : Deps w p cap ps) {i : Nat} (hi : i < ps.length) :
    ∃ b off, p = some ⟨b, off, none⟩ ∧ b < w.heap.size ∧ w.cell? ⟨b, off + i, none⟩ = some (ps.getD i .none).val ∧ PtOk w (ps.getD i .none) := by
  obtain ⟨b, off, e, hb, hc⟩ := h.sl.row.cons (by simp; omega)
  exact ⟨b, off, e, hb, (hc i (by simpa using hi)).trans (pts_get hi), h.each i hi⟩
/-- Where the numbers are alike, the list is. -/
def nums (ps : List Pt) : List (List Int) := ps.map (·.l)
@[simp] theorem nums_length (ps : List Pt) : (nums ps).length = ps.length := by simp [nums]
theorem nums_get (ps : List Pt) (i : Nat) : (nums ps).getD i [] = (ps.getD i .none).l := by
  simp [nums, List.getD_eq_getElem?_getD]
  cases ps[i]? <;> rfl

section
variable {H : Type} {enc : TypeId × Value → H} {P : Program} {w : World} {base : Nat} {spare : Nat → Bool} {held : Bool} {fuel : Nat}
theorem trod_sl {t e : TypeId} {k : IntKind} (ht : P.underlying t = some (.slice e)) (he : P.underlying e = some (.int k)) (hC : P.cellsOf e = 1) {cs : List Value} {x : DataW H × List MemPlace}
    (hf : DataW.trod enc P w base spare held fuel t cs = some x) : ∃ (p : Option Addr) (cap : Nat) (l : List Int), cs = [.slice p l.length cap] ∧ Sl w 1 p l.length cap (ints k l) ∧ ∀ x ∈ l, (Lit.int k x).wf = true := by
  rcases open_ints ht he hC hf with ⟨hcs, -⟩ | ⟨a, len, cap, zs, hcs, -, hl, hm, hz, -, hcell, hwz⟩
  · exact ⟨none, 0, [], hcs, Sl.zero _ _, fun x hx => by simp at hx⟩
  · have hz' : len ≤ zs.length := by rw [hz]; split <;> omega
    have hlen : (zs.take len).length = len := by simp; omega
    refine ⟨some a, cap, zs.take len, by rw [hlen]; exact hcs, ⟨?_, by simp, by omega, by unfold maxLen at hm; exact hm, fun h => by cases h⟩, fun x hx => hwz x (List.mem_of_mem_take hx)⟩
    by_cases h0 : 0 < len
    · obtain ⟨b, off, spot⟩ := a
      have h1 := hcell 0 (by omega)
      have hs : spot = none := by simpa [Addr.add] using World.cell?_spot h1
      subst hs
      have hb : b < w.heap.size := World.block_lt_of_cell? w ⟨b, off, none⟩ (by simpa [Addr.add] using h1)
      refine ⟨b, off, fun _ => ⟨rfl, hb⟩, fun i hi => ?_⟩
      have hi' : i < len := by simp at hi; omega
      have hc := hcell i (by omega)
      rw [add_lit'] at hc
      rw [hc, ints_getD (by rw [hlen]; exact hi')]
      simp [hi']
    · have e : zs.take len = [] := List.eq_nil_of_length_eq_zero (by rw [hlen]; omega)
      rw [e]
      exact RowAt.nil _ _
end
section
variable {H : Type} {enc : TypeId × Value → H} {w : World} {base : Nat} {spare : Nat → Bool} {held : Bool} {fuel : Nat}
theorem trod_dep {cs : List Value} {x : DataW H × List MemPlace} (h : DataW.trod enc Try.prog w base spare held fuel 51 cs = some x) : ∃ e : Pt, cs = [e.val] ∧ PtOk w e ∧ ∀ x ∈ e.l, (Lit.int .i64 x).wf = true := by
  obtain ⟨xs, n', -, -, hcl, hlen, hf⟩ := DataW.trod_struct Try.underlying51 h
  have hc3 : Try.prog.cellsOf 23 = 1 := by kernel_rfl
  have hce : Try.prog.cellsOf 51 = 1 := by kernel_rfl
  rw [hce] at hcl
  rcases cs with _ | ⟨a0, cs⟩ <;> simp at hcl
  subst hcl
  have h0 : DataW.trod enc Try.prog w base spare held n' 23 (([a0].drop 0).take (Try.prog.cellsOf 23)) = xs[0]? := hf 0 _ rfl
  rw [hc3, List.getElem?_eq_getElem (by rw [hlen]; decide)] at h0
  obtain ⟨p, cap, l, e, hs, hw⟩ := trod_sl Try.underlying23 Try.underlying3 (by kernel_rfl) h0
  exact ⟨⟨p, cap, l⟩, e, hs, hw⟩

theorem open_deps {v : Value} {d : DataW H} {ps : List MemPlace} {r : Reach} {b0 : Nat} (hv : Value.okWide Try.prog w r b0 22 v) (h : DataW.Trod enc Try.prog w base spare held 22 v d ps) :
    ∃ (p : Option Addr) (cap : Nat) (l : List Pt), v = .slice p l.length cap ∧ Deps w p cap l := by
  obtain ⟨a0, len, cap, rfl⟩ := okWide_slice Try.underlying22 hv
  obtain ⟨fuel, hf⟩ := h
  rcases open_slice Try.underlying22 hf with ⟨hcs, -⟩ | ⟨a, len', cap', m, n, D, Pl, hcs, -, hl, hm, hmm, -, hall⟩
  · simp [Value.cells] at hcs
    obtain ⟨rfl, rfl, rfl⟩ := hcs
    exact ⟨none, 0, [], rfl, Sl.zero _ _, fun i hi => by simp at hi⟩
  · simp [Value.cells] at hcs
    obtain ⟨rfl, rfl, rfl⟩ := hcs
    have hce : Try.prog.cellsOf 51 = 1 := by kernel_rfl
    have hlm : len ≤ m := by rw [hmm]; split <;> omega
    have key : ∀ i, i < len → ∃ e : Pt, PtOk w e ∧ w.cell? (a.add i) = some e.val := by
      intro i hi
      obtain ⟨cs', hc, ht⟩ := hall i (by omega)
      rw [hce] at hc
      obtain ⟨e, rfl, hw, -⟩ := trod_dep ht
      obtain ⟨-, -, hat⟩ := World.cells?_some hc
      refine ⟨e, hw, ?_⟩
      have := hat 0 (by omega)
      rw [Go.Deep.add_add, Nat.mul_one, Nat.add_zero] at this
      rw [this]; rfl
    obtain ⟨l, hl1, hl2⟩ : ∃ l : List Pt, l.length = len ∧ ∀ i, i < len → PtOk w (l.getD i .none) ∧ w.cell? (a.add i) = some (l.getD i .none).val := by
      refine ⟨(List.range len).map fun i => if h : i < len then (key i h).choose else .none, by simp, fun i hi => ?_⟩
      have hs := (key i hi).choose_spec
      have e : ((List.range len).map fun i => if h : i < len then (key i h).choose else Pt.none).getD i .none = (key i hi).choose := by simp [hi]
      rw [e]
      exact hs
    subst hl1
    refine ⟨some a, cap, l, rfl, ⟨?_, by simp, by omega, by unfold maxLen at hm; exact hm, fun h => by cases h⟩, fun i hi => (hl2 i hi).1⟩
    by_cases h0 : 0 < l.length
    · obtain ⟨b, off, spot⟩ := a
      have h1 := (hl2 0 h0).2
      have hs : spot = none := by simpa [Addr.add] using World.cell?_spot h1
      subst hs
      have hb : b < w.heap.size := World.block_lt_of_cell? w ⟨b, off, none⟩ (by simpa [Addr.add] using h1)
      refine ⟨b, off, fun _ => ⟨rfl, hb⟩, fun i hi => ?_⟩
      rw [pts_length] at hi
      have hc := (hl2 i hi).2
      rw [add_lit'] at hc
      rw [hc, pts_get hi]
    · have e : l = [] := List.eq_nil_of_length_eq_zero (by omega)
      rw [e]
      exact RowAt.nil _ _
end
theorem own : ownKnob Try.prog.godebug = none := by kernel_rfl
theorem laidOut : laidOutB Try.prog = true := by kernel_rfl
end Go.Proofs.Ytoillodfabdeeaa
