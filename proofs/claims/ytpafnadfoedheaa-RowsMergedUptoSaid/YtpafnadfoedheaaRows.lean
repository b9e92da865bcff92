/-
  No cell of these rows narrows 'for every input' (looked for: loops, veiled, ifaces, maps, wideKeys, modest, calm, conditions, laid).
  DERIVED. THE GIVEN ROWS OF THIS SEAT. 3 by the template 'for every input the law returns true; each argument reads behind the call as it read before'; 0 by the template 'total and deterministic' (their statements: YtpafnadfoedheaaTotals.lean).
  GIVEN WITH THE SEED: the statements are not yours to turn. If you find one false, say at which input.
  Laid BY PROGRAM, IN A SANDBOX (cutbox-rows.mjs): the forced cells as the released guide's own fill.sh prints them over the translation 2b55bfff7ef165d1… (all of the seat's roots in one cut). By AI agents, Wed Nov 11 2026. No macro, syntax, notation, axiom, sorry.
-/
import Derived.Test.YtpafnadfoedheaaChecked
import GoSem.Claim
import GoSem.ClaimJoined
import GoSem.ClaimMapViews
import Derived.JoinedTies
import Derived.KernelRfl
namespace Go.Proofs.Ytpafnadfoedheaa
/- THE CELL 'sum', in the pinned program and in every row, IS THE sha256 OF THE DUMP (.gsa) THAT YtpafnadfoedheaaProg.lean LOADS. Nothing in Lean hashes anything: it is a label: what it is worth is what the hold of that sum in a sandbox is worth. -/
noncomputable def Try.pinned : Pinned := { name := "ytpafnadfoedheaa", sum := "2b55bfff7ef165d13bdca5400b34123e97b9acb1cad012e60f0e8a71c2d7fe2b", checked := Try.checked }
namespace Rows
def none {H : Type} : Left H := { results := [], args := [] }

/-- 'backstitchkeep4.RowsMerged': WHATEVER THE INPUT: true; the input reads as it did. -/
def rowsMergedSpec : ChangeSpec := { name := "rowsMerged", fn := fun _ => fun
  | [d1, d2] => { results := [.lit (.bool true)], args := [d1, d2] }
  | _ => none }
def rowsMergedRow : OpenClaim := { program := "ytpafnadfoedheaa", sum := "2b55bfff7ef165d13bdca5400b34123e97b9acb1cad012e60f0e8a71c2d7fe2b", func := "backstitch/backstitchkeep4.RowsMerged", spec := "rowsMerged", unfollowed := true, recurses := true, apart := false }
def RowsMergedSaid : Prop := rowsMergedRow.holds Try.pinned (OpenSpec.ofChange rowsMergedSpec)

/-- ITS FALSE NEIGHBOUR: 'it returns false'. Refute it at one input. -/
def rowsMergedWrong : ChangeSpec := { name := "rowsMerged", fn := fun _ => fun
  | [d1, d2] => { results := [.lit (.bool false)], args := [d1, d2] }
  | _ => none }
def RowsMergedWrongFalsely : Prop := rowsMergedRow.holds Try.pinned (OpenSpec.ofChange rowsMergedWrong)

/-- 'backstitchkeep4.RowsThree': WHATEVER THE INPUT: true; the input reads as it did. -/
def rowsThreeSpec : ChangeSpec := { name := "rowsThree", fn := fun _ => fun
  | [d1, d2, d3] => { results := [.lit (.bool true)], args := [d1, d2, d3] }
  | _ => none }
def rowsThreeRow : OpenClaim := { program := "ytpafnadfoedheaa", sum := "2b55bfff7ef165d13bdca5400b34123e97b9acb1cad012e60f0e8a71c2d7fe2b", func := "backstitch/backstitchkeep4.RowsThree", spec := "rowsThree", unfollowed := true, recurses := true, apart := false }
def RowsThreeSaid : Prop := rowsThreeRow.holds Try.pinned (OpenSpec.ofChange rowsThreeSpec)

/-- ITS FALSE NEIGHBOUR: 'it returns false'. Refute it at one input. -/
def rowsThreeWrong : ChangeSpec := { name := "rowsThree", fn := fun _ => fun
  | [d1, d2, d3] => { results := [.lit (.bool false)], args := [d1, d2, d3] }
  | _ => none }
def RowsThreeWrongFalsely : Prop := rowsThreeRow.holds Try.pinned (OpenSpec.ofChange rowsThreeWrong)

/-- 'backstitchkeep4.RowsParts': WHATEVER THE INPUT: true; the input reads as it did. -/
def rowsPartsSpec : ChangeSpec := { name := "rowsParts", fn := fun _ => fun
  | [d1, d2] => { results := [.lit (.bool true)], args := [d1, d2] }
  | _ => none }
def rowsPartsRow : OpenClaim := { program := "ytpafnadfoedheaa", sum := "2b55bfff7ef165d13bdca5400b34123e97b9acb1cad012e60f0e8a71c2d7fe2b", func := "backstitch/backstitchkeep4.RowsParts", spec := "rowsParts", unfollowed := true, recurses := true, apart := false }
def RowsPartsSaid : Prop := rowsPartsRow.holds Try.pinned (OpenSpec.ofChange rowsPartsSpec)

/-- ITS FALSE NEIGHBOUR: 'it returns false'. Refute it at one input. -/
def rowsPartsWrong : ChangeSpec := { name := "rowsParts", fn := fun _ => fun
  | [d1, d2] => { results := [.lit (.bool false)], args := [d1, d2] }
  | _ => none }
def RowsPartsWrongFalsely : Prop := rowsPartsRow.holds Try.pinned (OpenSpec.ofChange rowsPartsWrong)

/- THE SECOND FORM. 'bulk': how many values and letters a reading holds, each counted each time it is reached (what is shared counts as often as it is met; a slice's spare places count too). A statement '..UptoSaid' is the law's where the arguments, and the package variables that the reading takes, are together of bulk at most 1048576: NARROWER than '..Said'. Prove '..Said' where nothing that the law and all that it calls make is longer than what came in: it says more and counts as full. Else prove '..UptoSaid'. A law counts once. -/
mutual
def uptoBulk {H : Type} : DataW H → Nat
  | .lit (.string bytes) => bytes.length + 1
  | .lit _ => 1
  | .nil => 1
  | .ptr d => uptoBulk d + 1
  | .slice elems spare => uptoBulkAll elems + uptoBulkAll spare + 1
  | .agg parts => uptoBulkAll parts + 1
  | .iface _ d => uptoBulk d + 1
  | .map entries => uptoBulkEntries entries + 1
  | .held _ => 1
def uptoBulkAll {H : Type} : List (DataW H) → Nat
  | [] => 0
  | d :: r => uptoBulk d + uptoBulkAll r
def uptoBulkEntries {H : Type} : List (Lit × DataW H) → Nat
  | [] => 0
  | x :: r => uptoBulkEntry x + uptoBulkEntries r
def uptoBulkEntry {H : Type} : Lit × DataW H → Nat
  | (.string bytes, d) => bytes.length + uptoBulk d + 1
  | (_, d) => uptoBulk d + 1
 end
def uptoSmall : (H : Type) → List (DataW H) → Bool := fun _ ds => decide (uptoBulkAll ds ≤ 1048576)
def OpenSpec.upto (s : _root_.Go.ChangeSpec) : _root_.Go.OpenSpec := { _root_.Go.OpenSpec.ofChange s with cond := some uptoSmall }

/-- 'backstitchkeep4.RowsMerged', WHERE WHAT IT READS IS OF BULK AT MOST 1048576: true; the input reads as it did. -/
def rowsMergedUptoRow : OpenClaim := { program := "ytpafnadfoedheaa", sum := "2b55bfff7ef165d13bdca5400b34123e97b9acb1cad012e60f0e8a71c2d7fe2b", func := "backstitch/backstitchkeep4.RowsMerged", spec := "rowsMerged", unfollowed := true, recurses := true, apart := false, narrowed := true }
def RowsMergedUptoSaid : Prop := rowsMergedUptoRow.holds Try.pinned (OpenSpec.upto rowsMergedSpec)

/-- 'backstitchkeep4.RowsThree', WHERE WHAT IT READS IS OF BULK AT MOST 1048576: true; the input reads as it did. -/
def rowsThreeUptoRow : OpenClaim := { program := "ytpafnadfoedheaa", sum := "2b55bfff7ef165d13bdca5400b34123e97b9acb1cad012e60f0e8a71c2d7fe2b", func := "backstitch/backstitchkeep4.RowsThree", spec := "rowsThree", unfollowed := true, recurses := true, apart := false, narrowed := true }
def RowsThreeUptoSaid : Prop := rowsThreeUptoRow.holds Try.pinned (OpenSpec.upto rowsThreeSpec)

/-- 'backstitchkeep4.RowsParts', WHERE WHAT IT READS IS OF BULK AT MOST 1048576: true; the input reads as it did. -/
def rowsPartsUptoRow : OpenClaim := { program := "ytpafnadfoedheaa", sum := "2b55bfff7ef165d13bdca5400b34123e97b9acb1cad012e60f0e8a71c2d7fe2b", func := "backstitch/backstitchkeep4.RowsParts", spec := "rowsParts", unfollowed := true, recurses := true, apart := false, narrowed := true }
def RowsPartsUptoSaid : Prop := rowsPartsUptoRow.holds Try.pinned (OpenSpec.upto rowsPartsSpec)

end Rows
end Go.Proofs.Ytpafnadfoedheaa
