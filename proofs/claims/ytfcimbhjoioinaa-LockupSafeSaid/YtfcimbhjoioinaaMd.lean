/-
  A map of numbers that a call has made, as a function; ranged over, struck from.
-/
import Derived.Test.YtfcimbhjoioinaaThr
import Derived.Maps.RangeWalk
namespace Go.Proofs.Ytfcimbhjoioinaa
open Go.RowKit
open Go.Maps (Keyed)

/-- What a map reads as. -/
structure Rep (D : DataW Unit) (N : Int → Option Int) : Prop where
  map : Maps.IsMap D
  has : ∀ x, (Lit.int .i64 x).wf = true → Maps.has D (.int .i64 x) = (N x).isSome
  get : ∀ x, (Lit.int .i64 x).wf = true → ∀ z, D.atKey (.int .i64 x) z = (match N x with | some v => .lit (.int .i64 v) | none => z)
def delN (N : Int → Option Int) (x : Int) : Int → Option Int := fun y => if y = x then none else N y
theorem isKey {x : Int} (h : (Lit.int .i64 x).wf = true) : WideAt.IsKeyLit (Lit.int .i64 x) := keyedI.key (Go.Maps.keyOf_int_mk Try.underlying3 h)
theorem rep_made : Rep (.map []) (fun _ => none) := ⟨Maps.isMap_empty, fun _ _ => rfl, fun _ _ _ => rfl⟩
theorem Rep.put {D : DataW Unit} {N : Int → Option Int} (h : Rep D N) {x : Int} (hx : (Lit.int .i64 x).wf = true) (v : Int) : Rep (D.put (.int .i64 x) (.lit (.int .i64 v))) (putN N x v) := by
  refine ⟨h.map.put _ _, fun y hy => ?_, fun y hy z => ?_⟩
  · unfold putN
    by_cases e : y = x
    · subst e; rw [if_pos rfl, Maps.has_put_same h.map (isKey hx)]; rfl
    · rw [if_neg e, Maps.has_put_other (by simpa using e), h.has y hy]
  · unfold putN
    by_cases e : y = x
    · subst e; rw [if_pos rfl, Maps.atKey_put_same h.map (isKey hx)]
    · rw [if_neg e, Maps.atKey_put_other (by simpa using e), h.get y hy]
theorem Rep.del {D : DataW Unit} {N : Int → Option Int} (h : Rep D N) (x : Int) : Rep (D.del (.int .i64 x)) (delN N x) := by
  refine ⟨h.map.del _, fun y hy => ?_, fun y hy z => ?_⟩
  · unfold delN
    by_cases e : y = x
    · subst e; rw [if_pos rfl, Maps.has_del_same]; rfl
    · rw [if_neg e, Maps.has_del_other (by simpa using e), h.has y hy]
  · unfold delN
    by_cases e : y = x
    · subst e; rw [if_pos rfl, Maps.atKey_del_same]
    · rw [if_neg e, Maps.atKey_del_other (by simpa using e), h.get y hy]
/-- It. -/
def MdIs (w : World) (b n : Nat) (N : Int → Option Int) : Prop := ∃ D : DataW Unit, w.ownsMap Try.prog 3 (plainElem Try.prog 3) b n D ∧ Rep D N
theorem mdIs_made (w : World) : MdIs (w.alloc (.map #[] 0)) w.heap.size 0 (fun _ => none) := ⟨_, World.ownsMap_made w Try.prog 3 _, rep_made⟩
theorem MdIs.lt {w : World} {b n : Nat} {N : Int → Option Int} (h : MdIs w b n N) : b < w.heap.size := by obtain ⟨D, h1, -⟩ := h; exact h1.lt
theorem MdIs.kept {w w' : World} {b n : Nat} {N : Int → Option Int} {row : Option Nat} (h : MdIs w b n N) (hg : w.grownBy w' row) (hne : some b ≠ row) : MdIs w' b n N := by obtain ⟨D, h1, h2⟩ := h; exact ⟨D, h1.kept hg hne, h2⟩
theorem MdIs.look {w : World} {b n : Nat} {N : Int → Option Int} (h : MdIs w b n N) {x : Int} (hx : (Lit.int .i64 x).wf = true) : (Instr.lookup 45 (.map (some b)) (.int .i64 x) false).run Try.prog w = .ok (.int .i64 ((N x).getD 0)) w := by
  obtain ⟨D, h1, h2⟩ := h
  obtain ⟨c, hrun, hat, -⟩ := h1.lookup_int keyedI Try.underlying45 Try.underlying3 (Try.zeroValue3 w) (Go.Maps.keyOf_int_mk Try.underlying3 hx)
  rw [hrun]
  rw [h2.get x hx] at hat
  cases hN : N x with
  | none => rw [hN] at hat; have : (0 : Int) = c := by simpa using hat
            rw [← this]; rfl
  | some v => rw [hN] at hat; have : v = c := by simpa using hat
              rw [← this]; rfl
end Go.Proofs.Ytfcimbhjoioinaa
