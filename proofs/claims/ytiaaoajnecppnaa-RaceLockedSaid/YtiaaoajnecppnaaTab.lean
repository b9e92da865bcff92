/-
  The package's tables that the seat's statements tell of: of a block its cells.
-/
import Derived.Test.YtiaaoajnecppnaaMem
namespace Go.Proofs.Ytiaaoajnecppnaa
def pow10V : List Value := (List.range 20).map fun i => .int .u64 ((10 ^ i : Nat) : Int)
def tabs : List (Nat × List Value) :=
  []
def TabsIn (w : World) : Prop := ∀ p ∈ tabs, ∃ t fr, w.heap[p.1]? = some (.cells p.2.toArray t fr)
end Go.Proofs.Ytiaaoajnecppnaa
