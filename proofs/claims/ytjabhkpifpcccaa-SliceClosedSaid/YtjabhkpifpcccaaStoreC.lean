/-
  A class of worlds for a region that ends in one store into an old cell.
-/
import Derived.Test.YtjabhkpifpcccaaPlan
import Derived.Test.YtjabhkpifpcccaaFast
namespace Go.Proofs.Ytjabhkpifpcccaa
open Go.RowKit Go.Sort

structure G3 where
  d : Nat
  os : Array Obj
  v : Option Value
instance : Inhabited G3 := ⟨⟨0, #[], none⟩⟩
def setO (w : World) (a : Addr) : Option Value → World
  | none => w
  | some v => w.setCell a v
theorem g3_of_below {w w' : World} (a : Addr) (h : Below w.heap.size w w') : ∃ p : G3, w' = setO (grow (redrawn w p.d) p.os) a p.v := by
  obtain ⟨p, hp⟩ := regrown_of_below h
  exact ⟨⟨p.d, p.os, none⟩, hp⟩
theorem g3_of_set {w w' : World} (a : Addr) (v : Value) (h : Below w.heap.size w w') : ∃ p : G3, w'.setCell a v = setO (grow (redrawn w p.d) p.os) a p.v := by
  obtain ⟨p, hp⟩ := regrown_of_below h
  exact ⟨⟨p.d, p.os, some v⟩, by subst hp; rfl⟩
theorem cell_setO {w : World} {b o b' o' : Nat} {u : Value} (h : w.cell? ⟨b, o, none⟩ = some u) (hne : ¬ (b = b' ∧ o = o')) (d : Nat) (os : Array Obj) (v : Option Value) : (setO (grow (redrawn w d) os) ⟨b', o', none⟩ v).cell? ⟨b, o, none⟩ = some u := by
  have h1 := cell_regrown h d os
  cases v with
  | none => exact h1
  | some v =>
    show ((grow (redrawn w d) os).setCell ⟨b', o', none⟩ v).cell? ⟨b, o, none⟩ = some u
    rw [World.cell?_setCell_other _ _ _ _ (by simpa using fun h1 h2 => hne ⟨h1.symm, h2.symm⟩)]
    exact h1
end Go.Proofs.Ytjabhkpifpcccaa
