/-
  Arguments opened: slices of numbers.
-/
import Derived.Test.YtfcimbhjoioinaaMem
import Derived.ProofKit
import Derived.OpenShut
import Derived.ChangeOld
import Derived.Below
namespace Go.Proofs.Ytfcimbhjoioinaa
open Go.ChangeShapes Go.WideShapes Go.ChangeAt Go.RowKit

section
variable {H : Type} {enc : TypeId × Value → H} {P : Program} {w : World} {base : Nat} {held : Bool}
theorem open_sl {t e : TypeId} {k : IntKind} {v : Value} {d : DataW H} {ps : List MemPlace} (ht : P.underlying t = some (.slice e)) (he : P.underlying e = some (.int k)) (hC : P.cellsOf e = 1)
    {r : Reach} {b0 : Nat} (hv : Value.okWide P w r b0 t v) (h : DataW.Trod enc P w base (fun _ => true) held t v d ps) :
    ∃ (p : Option Addr) (cap : Nat) (l : List Int), v = .slice p l.length cap ∧ Sl w 1 p l.length cap (ints k l) ∧ ∀ x ∈ l, (Lit.int k x).wf = true := by
  obtain ⟨a0, len, cap, rfl⟩ := okWide_slice ht hv
  obtain ⟨fuel, hf⟩ := h
  rcases open_ints ht he hC hf with ⟨hcs, -⟩ | ⟨a, len', cap', zs, hcs, -, hl, hm, hz, -, hcell, hwz⟩
  · simp [Value.cells] at hcs
    obtain ⟨rfl, rfl, rfl⟩ := hcs
    exact ⟨none, 0, [], rfl, Sl.zero _ _, fun x hx => by simp at hx⟩
  · simp [Value.cells] at hcs
    obtain ⟨rfl, rfl, rfl⟩ := hcs
    have hz' : zs.length = cap := by simpa using hz
    have hlen : (zs.take len).length = len := by simp; omega
    refine ⟨some a, cap, zs.take len, by rw [hlen], ⟨?_, by simp, by omega, by unfold maxLen at hm; exact hm, fun h => by cases h⟩, fun x hx => hwz x (List.mem_of_mem_take hx)⟩
    by_cases h0 : 0 < len
    · obtain ⟨b, off, spot⟩ := a
      have h1 := hcell 0 (by omega)
      have hs : spot = none := by simpa [Addr.add] using World.cell?_spot h1
      subst hs
      have hb : b < w.heap.size := World.block_lt_of_cell? w ⟨b, off, none⟩ (by simpa [Addr.add] using h1)
      refine ⟨b, off, fun _ => ⟨rfl, hb⟩, fun i hi => ?_⟩
      have hi' : i < len := by simp at hi; omega
      have hc := hcell i (by omega)
      rw [add_lit'] at hc
      rw [hc, ints_getD (by rw [hlen]; exact hi')]
      simp [hi']
    · have e : zs.take len = [] := List.eq_nil_of_length_eq_zero (by rw [hlen]; omega)
      rw [e]
      exact RowAt.nil _ _
end

end Go.Proofs.Ytfcimbhjoioinaa
