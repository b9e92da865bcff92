/-
  Predicates handed over as function values.
-/
import Derived.Test.YtpafnadfoedheaaProg
import Derived.Test.YtpafnadfoedheaaMem
import Derived.Calls
namespace Go.Proofs.Ytpafnadfoedheaa
open Go.RowKit

/-- A function value that answers p of every x of D, in every world that keeps what lay in W. -/
structure PredV {α : Type} (W : World) (f : FuncId) (capt : Array Value) (enc : α → Value) (D : World → α → Prop) (p : α → Bool) : Prop where
  ent : ∀ (args : Array Value) (w : World), (callFunc f args).run Try.prog w = .ok (.enter f args) w
  call : ∀ w', Below W.heap.size W w' → ∀ x, D w' x → Calls Try.prog f (#[enc x] ++ capt) w' fun e w'' => e = .returned (.bool (p x)) ∧ Below w'.heap.size w' w''

theorem PredV.next {α : Type} {W W' : World} {f : FuncId} {capt : Array Value} {enc : α → Value} {D : World → α → Prop} {p : α → Bool} (h : PredV W f capt enc D p) (hb : Below W.heap.size W W') : PredV W' f capt enc D p :=
  ⟨h.ent, fun w' hw' => h.call w' (hb.trans (hw'.mono hb.size))⟩
end Go.Proofs.Ytpafnadfoedheaa
