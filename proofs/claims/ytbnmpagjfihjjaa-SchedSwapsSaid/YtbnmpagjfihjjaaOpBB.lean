/-
  Rows of truth values that came in, opened.
-/
import Derived.Test.YtbnmpagjfihjjaaOpRd
import Derived.Test.YtbnmpagjfihjjaaHangs
namespace Go.Proofs.Ytbnmpagjfihjjaa
open Go.ChangeShapes Go.WideShapes Go.ChangeAt Go.RowKit Go.Deep

section
variable {H : Type} {enc : TypeId × Value → H} {w : World} {base : Nat} {spare : Nat → Bool} {held : Bool}
theorem op_B : Op enc w base spare held 4 (fun x => [Value.bool x]) (okT (α := Bool)) := by
  intro fuel cs x h
  obtain ⟨n, e, z⟩ := DataW.trod_bool Try.underlying4 h
  exact ⟨n, e, trivial⟩
theorem fm_bools (l : List Bool) : (l.flatMap fun x => [Value.bool x]) = bools l := by
  induction l with
  | nil => rfl
  | cons x l ih => rw [List.flatMap_cons, ih]; rfl
theorem op_Bl : Op enc w base spare held 38 brCells RdBl := by
  intro fuel cs x h
  obtain ⟨s, e, hs⟩ := open_rd (T := 38) Try.underlying38 (by kernel_rfl) (k := 1) (fun _ => rfl) (by decide) op_B _ _ _ h
  exact ⟨s, e, by have := hs.row; rw [fm_bools] at this; exact this⟩
theorem op_BB : Op enc w base spare held 32 (fun s : Sv (Sv Bool) => [s.val]) RdBB := open_rd Try.underlying32 (by kernel_rfl) (fun _ => rfl) (by decide) op_Bl
theorem open_bb {v : Value} {d : DataW H} {ps : List MemPlace} {r : Go.Reach} {b0 : Nat} (hv : Value.okWide Try.prog w r b0 32 v) (h : DataW.Trod enc Try.prog w base spare held 32 v d ps) :
    ∃ s : Sv (Sv Bool), v = s.val ∧ RdBB w s := by
  obtain ⟨a0, len, cap, rfl⟩ := okWide_slice Try.underlying32 hv
  obtain ⟨fuel, hf⟩ := h
  obtain ⟨s, e, hs⟩ := op_BB fuel _ _ hf
  refine ⟨s, ?_, hs⟩
  have e' : [Value.slice a0 len cap] = [s.val] := e
  simpa using e'
end
end Go.Proofs.Ytbnmpagjfihjjaa
