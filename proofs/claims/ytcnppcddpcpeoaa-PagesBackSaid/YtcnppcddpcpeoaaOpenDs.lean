/-
  A store that came in, opened.
-/
import Derived.Test.YtcnppcddpcpeoaaOpRd
import Derived.Test.YtcnppcddpcpeoaaSt
namespace Go.Proofs.Ytcnppcddpcpeoaa
open Go.ChangeShapes Go.WideShapes Go.ChangeAt Go.RowKit Go.Deep

section
variable {H : Type} {enc : TypeId × Value → H} {w : World} {base : Nat} {spare : Nat → Bool} {held : Bool}
theorem op_Pg : Op enc w base spare held 38 Pg.cells okT := by
  intro fuel cs x h
  obtain ⟨xs, n', -, -, hcl, hlen, hf⟩ := DataW.trod_array Try.underlying38 h
  have hce : Try.prog.cellsOf 38 = 4 := by kernel_rfl
  have hc1 : Try.prog.cellsOf 3 = 1 := by kernel_rfl
  rw [hce] at hcl
  rcases cs with _ | ⟨v0, cs⟩ <;> simp only [List.length_nil, List.length_cons] at hcl <;> try omega
  rcases cs with _ | ⟨v1, cs⟩ <;> simp only [List.length_nil, List.length_cons] at hcl <;> try omega
  rcases cs with _ | ⟨v2, cs⟩ <;> simp only [List.length_nil, List.length_cons] at hcl <;> try omega
  rcases cs with _ | ⟨v3, cs⟩ <;> simp only [List.length_nil, List.length_cons] at hcl <;> try omega
  obtain rfl : cs = [] := List.eq_nil_of_length_eq_zero (by omega)
  rcases xs with _ | ⟨x0, xs⟩ <;> simp only [List.length_nil, List.length_cons] at hlen <;> try omega
  rcases xs with _ | ⟨x1, xs⟩ <;> simp only [List.length_nil, List.length_cons] at hlen <;> try omega
  rcases xs with _ | ⟨x2, xs⟩ <;> simp only [List.length_nil, List.length_cons] at hlen <;> try omega
  rcases xs with _ | ⟨x3, xs⟩ <;> simp only [List.length_nil, List.length_cons] at hlen <;> try omega
  have h0 := hf 0 (by omega); have h1 := hf 1 (by omega); have h2 := hf 2 (by omega); have h3 := hf 3 (by omega)
  rw [hc1] at h0 h1 h2 h3
  obtain ⟨n0, e0, -, -⟩ := DataW.trod_int Try.underlying3 (show DataW.trod enc Try.prog w base spare held n' 3 [v0] = some x0 from h0)
  obtain ⟨n1, e1, -, -⟩ := DataW.trod_int Try.underlying3 (show DataW.trod enc Try.prog w base spare held n' 3 [v1] = some x1 from h1)
  obtain ⟨n2, e2, -, -⟩ := DataW.trod_int Try.underlying3 (show DataW.trod enc Try.prog w base spare held n' 3 [v2] = some x2 from h2)
  obtain ⟨n3, e3, -, -⟩ := DataW.trod_int Try.underlying3 (show DataW.trod enc Try.prog w base spare held n' 3 [v3] = some x3 from h3)
  simp only [List.cons.injEq, and_true] at e0 e1 e2 e3
  subst e0 e1 e2 e3
  exact ⟨⟨n0, n1, n2, n3⟩, rfl, trivial⟩
def dsCells (x : Ds) : List Value := [x.pages.val, x.uses.val, x.roots.val]
theorem op_Ds : Op enc w base spare held 26 dsCells Ds.ok := by
  intro fuel cs x h
  obtain ⟨xs, n', -, -, hcl, hlen, hf⟩ := DataW.trod_struct Try.underlying26 h
  have hce : Try.prog.cellsOf 26 = 3 := by kernel_rfl
  have hl2 : xs.length = 3 := hlen
  rw [hce] at hcl
  rcases cs with _ | ⟨v0, cs⟩ <;> simp only [List.length_nil, List.length_cons] at hcl <;> try omega
  rcases cs with _ | ⟨v1, cs⟩ <;> simp only [List.length_nil, List.length_cons] at hcl <;> try omega
  rcases cs with _ | ⟨v2, cs⟩ <;> simp only [List.length_nil, List.length_cons] at hcl <;> try omega
  obtain rfl : cs = [] := List.eq_nil_of_length_eq_zero (by omega)
  rcases xs with _ | ⟨x0, xs⟩ <;> simp only [List.length_nil, List.length_cons] at hl2 <;> try omega
  rcases xs with _ | ⟨x1, xs⟩ <;> simp only [List.length_nil, List.length_cons] at hl2 <;> try omega
  rcases xs with _ | ⟨x2, xs⟩ <;> simp only [List.length_nil, List.length_cons] at hl2 <;> try omega
  have hs0 : Try.prog.cellsOf 22 = 1 := by kernel_rfl
  have hs1 : Try.prog.cellsOf 23 = 1 := by kernel_rfl
  have hs2 : Try.prog.cellsOf 24 = 1 := by kernel_rfl
  have h0 : DataW.trod enc Try.prog w base spare held n' 22 (([v0, v1, v2].drop 0).take (Try.prog.cellsOf 22)) = some x0 := hf 0 _ rfl
  have h1 : DataW.trod enc Try.prog w base spare held n' 23 (([v0, v1, v2].drop 1).take (Try.prog.cellsOf 23)) = some x1 := hf 1 _ rfl
  have h2 : DataW.trod enc Try.prog w base spare held n' 24 (([v0, v1, v2].drop 2).take (Try.prog.cellsOf 24)) = some x2 := hf 2 _ rfl
  rw [hs0] at h0; rw [hs1] at h1; rw [hs2] at h2
  obtain ⟨s0, e0, r0⟩ := open_rd (T := 22) Try.underlying22 (by kernel_rfl) (k := 4) (fun _ => rfl) (by decide) op_Pg _ _ _ h0
  obtain ⟨s1, e1, r1⟩ := op_Is _ _ _ h1
  obtain ⟨s2, e2, r2⟩ := op_R _ _ _ h2
  have w0 : v0 = s0.val := by simpa using e0
  have w1 : v1 = s1.val := by simpa [rowCells] using e1
  have w2 : v2 = s2.val := by simpa using e2
  subst w0 w1 w2
  exact ⟨⟨s0, s1, s2⟩, rfl, ⟨r0, r1, r2⟩⟩
end
set_option maxRecDepth 100000 in
theorem open_Ds {H : Type} {enc : TypeId × Value → H} {w : World} {base : Nat} {held : Bool} {v : Value} {d : DataW H} {ps : List MemPlace} {r : Go.Reach} {b0 : Nat} (hv : Value.okWide Try.prog w r b0 26 v) (h : DataW.Trod enc Try.prog w base (fun _ => true) held 26 v d ps) :
    ∃ x : Ds, v = x.val ∧ x.ok w := by
  obtain ⟨cs, rfl, hsz⟩ := okWide_struct Try.underlying26 hv
  obtain ⟨fuel, hf⟩ := h
  obtain ⟨x, e, h1⟩ := op_Ds fuel _ _ hf
  refine ⟨x, ?_, h1⟩
  obtain ⟨l⟩ := cs
  have e' : l = dsCells x := e
  rw [e']
  rfl
end Go.Proofs.Ytcnppcddpcpeoaa
