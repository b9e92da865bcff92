/-
  Slices that came in, opened: of whatever, of numbers, of rows of numbers.
-/
import Derived.Test.YtbnmpagjfihjjaaRows
import Derived.Test.YtbnmpagjfihjjaaRd
import Derived.Test.YtbnmpagjfihjjaaOpen
import Derived.Deep.Slices
import Derived.Deep.Fields
namespace Go.Proofs.Ytbnmpagjfihjjaa
open Go.ChangeShapes Go.WideShapes Go.ChangeAt Go.RowKit Go.Deep

section
variable {H : Type} {enc : TypeId × Value → H} {w : World} {base : Nat} {spare : Nat → Bool} {held : Bool}
/-- What one of type E reads as. -/
def Op (enc : TypeId × Value → H) (w : World) (base : Nat) (spare : Nat → Bool) (held : Bool) {α : Type} (E : TypeId) (cells : α → List Value) (ok : World → α → Prop) : Prop :=
  ∀ (fuel : Nat) (cs : List Value) (x : DataW H × List MemPlace), DataW.trod enc Try.prog w base spare held fuel E cs = some x → ∃ a : α, cs = cells a ∧ ok w a
theorem open_rd {α : Type} [Inhabited α] {E T : TypeId} {k : Nat} {cells : α → List Value} {ok : World → α → Prop} (ht : Try.prog.underlying T = some (.slice E)) (hE : Try.prog.cellsOf E = k) (hk : ∀ x, (cells x).length = k) (hk0 : 0 < k)
    (hO : Op enc w base spare held E cells ok) : Op enc w base spare held T (fun s : Sv α => [s.val]) (Rd k cells ok) := by
  intro fuel cs x hf
  rcases open_slice ht hf with ⟨hcs, hx⟩ | ⟨a, len, cap, m, n, D, Pl, hcs, -, hl, hm, hmm, hx, hall⟩
  · exact ⟨Sv.none, hcs, Rd.zero _⟩
  · rw [hE] at hall
    have hlm : len ≤ m := by rw [hmm]; split <;> omega
    have key : ∀ i, i < len → ∃ b : α, ok w b ∧ ∀ j, j < k → w.cell? (a.add (i * k + j)) = (cells b)[j]? := by
      intro i hi
      obtain ⟨cs', hc, htr⟩ := hall i (by omega)
      obtain ⟨b, rfl, hw⟩ := hO _ _ _ htr
      obtain ⟨-, -, hat⟩ := World.cells?_some hc
      refine ⟨b, hw, fun j hj => ?_⟩
      have := hat j hj
      rw [← this, Go.Deep.add_add]
    obtain ⟨l, hl1, hl2⟩ : ∃ l : List α, l.length = len ∧ ∀ i, i < len → ok w (l.getD i default) ∧ ∀ j, j < k → w.cell? (a.add (i * k + j)) = (cells (l.getD i default))[j]? := by
      refine ⟨(List.range len).map fun i => if h : i < len then (key i h).choose else default, by simp, fun i hi => ?_⟩
      have hs := (key i hi).choose_spec
      have e1 : ((List.range len).map fun i => if h : i < len then (key i h).choose else default).getD i default = (key i hi).choose := by simp [hi]
      rw [e1]
      exact hs
    subst hl1
    refine ⟨⟨some a, cap, l⟩, hcs, ⟨⟨?_, fm_len hk l, hl, by unfold maxLen at hm; exact hm, fun h => by cases h⟩, fun b hb => ?_⟩⟩
    · by_cases h0 : 0 < l.length
      · obtain ⟨b, off, spot⟩ := a
        have h1 := (hl2 0 h0).2 0 hk0
        have hne : (cells (l.getD 0 default))[0]? = some ((cells (l.getD 0 default))[0]'(by rw [hk]; exact hk0)) := List.getElem?_eq_getElem _
        have h1' : w.cell? (Addr.add ⟨b, off, spot⟩ (0 * k + 0)) = some ((cells (l.getD 0 default))[0]'(by rw [hk]; exact hk0)) := h1.trans hne
        have hs : spot = none := by simpa [Addr.add] using World.cell?_spot h1'
        subst hs
        have hb : b < w.heap.size := World.block_lt_of_cell? w ⟨b, off, none⟩ (by simpa [Addr.add] using h1')
        refine ⟨b, off, fun _ => ⟨rfl, hb⟩, fun i hi => ?_⟩
        rw [fm_len hk] at hi
        have hik : i / k < l.length := Nat.div_lt_of_lt_mul (by rw [Nat.mul_comm]; exact hi)
        have hmod := Nat.mod_lt i hk0
        have hc := (hl2 (i / k) hik).2 (i % k) hmod
        have hsum : i / k * k + i % k = i := by rw [Nat.mul_comm]; exact Nat.div_add_mod i k
        rw [add_lit', hsum] at hc
        rw [hc, ← fm_get hk hik hmod, hsum]
      · have e1 : l = [] := List.eq_nil_of_length_eq_zero (by omega)
        rw [e1]
        exact RowAt.nil _ _
    · obtain ⟨i, hi, rfl⟩ := List.getElem_of_mem hb
      have := (hl2 i hi).1
      rwa [List.getD_eq_getElem?_getD, List.getElem?_eq_getElem hi] at this
theorem op_I : Op enc w base spare held 3 (fun x => [Value.int .i64 x]) (okT (α := Int)) := by
  intro fuel cs x h
  obtain ⟨n, e, z, -⟩ := DataW.trod_int Try.underlying3 h
  exact ⟨n, e, trivial⟩
theorem fm_ints (l : List Int) : (l.flatMap fun x => [Value.int .i64 x]) = ints .i64 l := by
  induction l with
  | nil => rfl
  | cons x l ih => rw [List.flatMap_cons, ih]; rfl
theorem op_Is : Op enc w base spare held 22 rowCells RdI := by
  intro fuel cs x h
  obtain ⟨s, e, hs⟩ := open_rd (T := 22) Try.underlying22 (by kernel_rfl) (k := 1) (fun _ => rfl) (by decide) op_I _ _ _ h
  exact ⟨s, e, by have := hs.row; rw [fm_ints] at this; exact this⟩
theorem op_R : Op enc w base spare held 33 (fun s : Sv (Sv Int) => [s.val]) RdR := open_rd Try.underlying33 (by kernel_rfl) (fun _ => rfl) (by decide) op_Is
end
end Go.Proofs.Ytbnmpagjfihjjaa
