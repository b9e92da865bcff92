/-
  The package's tables that the seat's statements tell of: of a block its cells.
-/
import Derived.Test.YtenlhfmchhljdaaDoorMem
namespace Go.Proofs.YtenlhfmchhljdaaDoor
def pow10V : List Value := (List.range 20).map fun i => .int .u64 ((10 ^ i : Nat) : Int)
def asciiV : List Value := (List.range 256).map fun i => .int .u8 (if i = 32 ∨ (9 ≤ i ∧ i ≤ 13) then 1 else 0)
/-- A variable that holds an error. -/
def errV (cs : List Value) : Prop := ∃ t p, cs = [.iface t p]
def tabs : List (Nat × (List Value → Prop)) :=
  (0, (· = asciiV)) ::
  (6, errV) ::
  (7, errV) ::
  (5, (· = pow10V)) ::
  []
def TabsIn (w : World) : Prop := ∀ p ∈ tabs, ∃ (cs : List Value) (t : TypeId) (fr : Nat × Nat), p.2 cs ∧ w.heap[p.1]? = some (.cells cs.toArray t fr)
end Go.Proofs.YtenlhfmchhljdaaDoor
