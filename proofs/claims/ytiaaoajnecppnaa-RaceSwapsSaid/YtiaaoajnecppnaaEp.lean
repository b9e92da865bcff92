/-
  Arguments opened: proofs, numbers, flags.
-/
import Derived.Test.YtiaaoajnecppnaaEo
import Derived.Test.YtiaaoajnecppnaaMrb
namespace Go.Proofs.Ytiaaoajnecppnaa
open Go.ChangeShapes Go.WideShapes Go.ChangeAt Go.RowKit Go.Deep
set_option maxRecDepth 100000
section
variable {H : Type} {enc : TypeId × Value → H} {w : World} {base : Nat} {spare : Nat → Bool} {held : Bool}
theorem opn_is : Opn enc Try.prog w base spare held 23 (fun l : List Int => isD l) (fun _ => True) := fun fuel cs x h => by
  obtain ⟨l, -, hr⟩ := Opn.sl (k := 1) Try.underlying23 (by kernel_rfl) (by decide) (Opn.int Try.underlying3) fuel cs x h
  exact ⟨l, trivial, hr⟩
theorem opn_pf : Opn enc Try.prog w base spare held 25 (fun p : List Int × List Int => pfD p.1 p.2) (fun _ => True) := fun fuel cs x h => by
  obtain ⟨p, -, hr⟩ := Opn.two (c0 := 1) (c1 := 1) Try.underlying25 (by kernel_rfl) (by kernel_rfl) (by kernel_rfl) rfl rfl opn_is opn_is fuel cs x h
  exact ⟨p, trivial, hr⟩
theorem open_pf {r : Reach} {b0 : Nat} {v : Value} {d : DataW H} {ps : List MemPlace} (hv : Value.okWide Try.prog w r b0 25 v) (h : DataW.Trod enc Try.prog w base spare held 25 v d ps) : ∃ I J, RepD (allS w) (pfD I J) v := by
  obtain ⟨cs, rfl, -⟩ := okWide_struct Try.underlying25 hv
  obtain ⟨fuel, h⟩ := h
  obtain ⟨⟨I, J⟩, -, hr⟩ := opn_pf _ _ _ h
  refine ⟨I, J, ?_⟩
  have e : (Value.agg cs).cells.toList = cs.toList := rfl
  rw [e] at hr
  have := RepD.agg hr
  rwa [Array.toArray_toList] at this
theorem opn_bool : Opn enc Try.prog w base spare held 4 (fun b : Bool => D.v (.bool b)) (fun _ => True) := fun fuel cs x h => by
  obtain ⟨b, rfl, -⟩ := DataW.trod_bool Try.underlying4 h
  exact ⟨b, trivial, .cons (.v rfl) rfl .nil⟩
theorem opn_bs : Opn enc Try.prog w base spare held 43 (fun l : List Bool => D.sl 1 (l.map fun b => .v (.bool b))) (fun _ => True) := fun fuel cs x h => by
  obtain ⟨l, -, hr⟩ := Opn.sl (k := 1) Try.underlying43 (by kernel_rfl) (by decide) opn_bool fuel cs x h
  exact ⟨l, trivial, hr⟩
end
end Go.Proofs.Ytiaaoajnecppnaa
