/-
  Slices of numbers.
-/
import Derived.Test.YtiaaoajnecppnaaProg
import Derived.Test.YtiaaoajnecppnaaMem
import Derived.Deep.QuietTactic
import Derived.BigQuiet
namespace Go.Proofs.Ytiaaoajnecppnaa
open Go.RowKit

/-- A slice of numbers. -/
abbrev SlI (w : World) (p : Option Addr) (cap : Nat) (l : List Int) : Prop := Sl w 1 p l.length cap (ints .i64 l)
abbrev OwnI (w : World) (base : Nat) (p : Option Addr) (cap : Nat) (l : List Int) : Prop := w.ownsRow base 3 1 (.slice p l.length cap) l.length (ints .i64 l)
theorem infoI : (Try.prog.info? 3).map (fun i => (i.zero, i.size, i.bytes)) = some (some (.int .i64 0), 1, 8) := by kernel_rfl
/-- A literal. -/
theorem lit_sl (w : World) (l : List Int) (hl : l.length ≤ 1000) (cs : Array Value) (hcs : cs.toList = ints .i64 l) (B : Nat) (hB : B = w.heap.size) (n : Nat) (hn : n = l.length) : SlI (w.alloc (.cells cs 3)) (some ⟨B, 0, none⟩) n l := by
  subst hB hn
  refine ⟨?_, by simp, Nat.le_refl _, by omega, fun h => by cases h⟩
  have := new_row w cs 3 (0, 0)
  rwa [hcs] at this
end Go.Proofs.Ytiaaoajnecppnaa
