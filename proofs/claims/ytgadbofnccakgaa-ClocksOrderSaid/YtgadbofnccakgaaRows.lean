/-
  No cell of these rows narrows 'for every input' (looked for: loops, veiled, ifaces, maps, wideKeys, modest, calm, conditions, laid).
  DERIVED. THE GIVEN ROWS OF THIS SEAT. 3 by the template 'for every input the law returns true; each argument reads behind the call as it read before'; 0 by the template 'total and deterministic' (their statements: YtgadbofnccakgaaTotals.lean).
  GIVEN WITH THE SEED: the statements are not yours to turn. If you find one false, say at which input.
  Laid BY PROGRAM, IN A SANDBOX (cutbox-rows.mjs): the forced cells as the released guide's own fill.sh prints them over the translation 9c76b8ac13c102cb… (all of the seat's roots in one cut). By AI agents, Wed Nov 11 2026. No macro, syntax, notation, axiom, sorry.
-/
import Derived.Test.YtgadbofnccakgaaChecked
import GoSem.Claim
import GoSem.ClaimJoined
import GoSem.ClaimMapViews
import Derived.JoinedTies
import Derived.KernelRfl
namespace Go.Proofs.Ytgadbofnccakgaa
/- THE CELL 'sum', in the pinned program and in every row, IS THE sha256 OF THE DUMP (.gsa) THAT YtgadbofnccakgaaProg.lean LOADS. Nothing in Lean hashes anything: it is a label: what it is worth is what the hold of that sum in a sandbox is worth. -/
noncomputable def Try.pinned : Pinned := { name := "ytgadbofnccakgaa", sum := "9c76b8ac13c102cb04e1f055bbe3dc963c56540d33a0e3d9fd582a1a89e5cd35", checked := Try.checked }
namespace Rows
def none {H : Type} : Left H := { results := [], args := [] }

/-- 'backstitchkeep4.ClocksPaths': WHATEVER THE INPUT: true; the input reads as it did. -/
def clocksPathsSpec : ChangeSpec := { name := "clocksPaths", fn := fun _ => fun
  | [d1, d2, d3, d4] => { results := [.lit (.bool true)], args := [d1, d2, d3, d4] }
  | _ => none }
def clocksPathsRow : OpenClaim := { program := "ytgadbofnccakgaa", sum := "9c76b8ac13c102cb04e1f055bbe3dc963c56540d33a0e3d9fd582a1a89e5cd35", func := "backstitch/backstitchkeep4.ClocksPaths", spec := "clocksPaths", unfollowed := true, recurses := true, apart := false }
def ClocksPathsSaid : Prop := clocksPathsRow.holds Try.pinned (OpenSpec.ofChange clocksPathsSpec)

/-- ITS FALSE NEIGHBOUR: 'it returns false'. Refute it at one input. -/
def clocksPathsWrong : ChangeSpec := { name := "clocksPaths", fn := fun _ => fun
  | [d1, d2, d3, d4] => { results := [.lit (.bool false)], args := [d1, d2, d3, d4] }
  | _ => none }
def ClocksPathsWrongFalsely : Prop := clocksPathsRow.holds Try.pinned (OpenSpec.ofChange clocksPathsWrong)

/-- 'backstitchkeep4.ClocksOrder': WHATEVER THE INPUT: true; the input reads as it did. -/
def clocksOrderSpec : ChangeSpec := { name := "clocksOrder", fn := fun _ => fun
  | [d1, d2, d3, d4, d5] => { results := [.lit (.bool true)], args := [d1, d2, d3, d4, d5] }
  | _ => none }
def clocksOrderRow : OpenClaim := { program := "ytgadbofnccakgaa", sum := "9c76b8ac13c102cb04e1f055bbe3dc963c56540d33a0e3d9fd582a1a89e5cd35", func := "backstitch/backstitchkeep4.ClocksOrder", spec := "clocksOrder", unfollowed := true, recurses := true, apart := false }
def ClocksOrderSaid : Prop := clocksOrderRow.holds Try.pinned (OpenSpec.ofChange clocksOrderSpec)

/-- ITS FALSE NEIGHBOUR: 'it returns false'. Refute it at one input. -/
def clocksOrderWrong : ChangeSpec := { name := "clocksOrder", fn := fun _ => fun
  | [d1, d2, d3, d4, d5] => { results := [.lit (.bool false)], args := [d1, d2, d3, d4, d5] }
  | _ => none }
def ClocksOrderWrongFalsely : Prop := clocksOrderRow.holds Try.pinned (OpenSpec.ofChange clocksOrderWrong)

/-- 'backstitchkeep4.ClocksEdge': WHATEVER THE INPUT: true; the input reads as it did. -/
def clocksEdgeSpec : ChangeSpec := { name := "clocksEdge", fn := fun _ => fun
  | [d1, d2, d3, d4] => { results := [.lit (.bool true)], args := [d1, d2, d3, d4] }
  | _ => none }
def clocksEdgeRow : OpenClaim := { program := "ytgadbofnccakgaa", sum := "9c76b8ac13c102cb04e1f055bbe3dc963c56540d33a0e3d9fd582a1a89e5cd35", func := "backstitch/backstitchkeep4.ClocksEdge", spec := "clocksEdge", unfollowed := true, recurses := true, apart := false }
def ClocksEdgeSaid : Prop := clocksEdgeRow.holds Try.pinned (OpenSpec.ofChange clocksEdgeSpec)

/-- ITS FALSE NEIGHBOUR: 'it returns false'. Refute it at one input. -/
def clocksEdgeWrong : ChangeSpec := { name := "clocksEdge", fn := fun _ => fun
  | [d1, d2, d3, d4] => { results := [.lit (.bool false)], args := [d1, d2, d3, d4] }
  | _ => none }
def ClocksEdgeWrongFalsely : Prop := clocksEdgeRow.holds Try.pinned (OpenSpec.ofChange clocksEdgeWrong)

/- THE SECOND FORM. 'bulk': how many values and letters a reading holds, each counted each time it is reached (what is shared counts as often as it is met; a slice's spare places count too). A statement '..UptoSaid' is the law's where the arguments, and the package variables that the reading takes, are together of bulk at most 1048576: NARROWER than '..Said'. Prove '..Said' where nothing that the law and all that it calls make is longer than what came in: it says more and counts as full. Else prove '..UptoSaid'. A law counts once. -/
mutual
def uptoBulk {H : Type} : DataW H → Nat
  | .lit (.string bytes) => bytes.length + 1
  | .lit _ => 1
  | .nil => 1
  | .ptr d => uptoBulk d + 1
  | .slice elems spare => uptoBulkAll elems + uptoBulkAll spare + 1
  | .agg parts => uptoBulkAll parts + 1
  | .iface _ d => uptoBulk d + 1
  | .map entries => uptoBulkEntries entries + 1
  | .held _ => 1
def uptoBulkAll {H : Type} : List (DataW H) → Nat
  | [] => 0
  | d :: r => uptoBulk d + uptoBulkAll r
def uptoBulkEntries {H : Type} : List (Lit × DataW H) → Nat
  | [] => 0
  | x :: r => uptoBulkEntry x + uptoBulkEntries r
def uptoBulkEntry {H : Type} : Lit × DataW H → Nat
  | (.string bytes, d) => bytes.length + uptoBulk d + 1
  | (_, d) => uptoBulk d + 1
 end
def uptoSmall : (H : Type) → List (DataW H) → Bool := fun _ ds => decide (uptoBulkAll ds ≤ 1048576)
def OpenSpec.upto (s : _root_.Go.ChangeSpec) : _root_.Go.OpenSpec := { _root_.Go.OpenSpec.ofChange s with cond := some uptoSmall }

/-- 'backstitchkeep4.ClocksPaths', WHERE WHAT IT READS IS OF BULK AT MOST 1048576: true; the input reads as it did. -/
def clocksPathsUptoRow : OpenClaim := { program := "ytgadbofnccakgaa", sum := "9c76b8ac13c102cb04e1f055bbe3dc963c56540d33a0e3d9fd582a1a89e5cd35", func := "backstitch/backstitchkeep4.ClocksPaths", spec := "clocksPaths", unfollowed := true, recurses := true, apart := false, narrowed := true }
def ClocksPathsUptoSaid : Prop := clocksPathsUptoRow.holds Try.pinned (OpenSpec.upto clocksPathsSpec)

/-- 'backstitchkeep4.ClocksOrder', WHERE WHAT IT READS IS OF BULK AT MOST 1048576: true; the input reads as it did. -/
def clocksOrderUptoRow : OpenClaim := { program := "ytgadbofnccakgaa", sum := "9c76b8ac13c102cb04e1f055bbe3dc963c56540d33a0e3d9fd582a1a89e5cd35", func := "backstitch/backstitchkeep4.ClocksOrder", spec := "clocksOrder", unfollowed := true, recurses := true, apart := false, narrowed := true }
def ClocksOrderUptoSaid : Prop := clocksOrderUptoRow.holds Try.pinned (OpenSpec.upto clocksOrderSpec)

/-- 'backstitchkeep4.ClocksEdge', WHERE WHAT IT READS IS OF BULK AT MOST 1048576: true; the input reads as it did. -/
def clocksEdgeUptoRow : OpenClaim := { program := "ytgadbofnccakgaa", sum := "9c76b8ac13c102cb04e1f055bbe3dc963c56540d33a0e3d9fd582a1a89e5cd35", func := "backstitch/backstitchkeep4.ClocksEdge", spec := "clocksEdge", unfollowed := true, recurses := true, apart := false, narrowed := true }
def ClocksEdgeUptoSaid : Prop := clocksEdgeUptoRow.holds Try.pinned (OpenSpec.upto clocksEdgeSpec)

end Rows
end Go.Proofs.Ytgadbofnccakgaa
