/-
  No cell of these rows narrows 'for every input' (looked for: loops, veiled, ifaces, maps, wideKeys, modest, calm, conditions, laid).
  DERIVED. THE GIVEN ROWS OF THIS SEAT. 3 by the template 'for every input the law returns true; each argument reads behind the call as it read before'; 0 by the template 'total and deterministic' (their statements: YtbnmpagjfihjjaaTotals.lean).
  GIVEN WITH THE SEED: the statements are not yours to turn. If you find one false, say at which input.
  Laid BY PROGRAM, IN A SANDBOX (cutbox-rows.mjs): the forced cells as the released guide's own fill.sh prints them over the translation 4b84bb42c9486390… (all of the seat's roots in one cut). By AI agents, Wed Nov 11 2026. No macro, syntax, notation, axiom, sorry.
-/
import Derived.Test.YtbnmpagjfihjjaaChecked
import GoSem.Claim
import GoSem.ClaimJoined
import GoSem.ClaimMapViews
import Derived.JoinedTies
import Derived.KernelRfl
namespace Go.Proofs.Ytbnmpagjfihjjaa
/- THE CELL 'sum', in the pinned program and in every row, IS THE sha256 OF THE DUMP (.gsa) THAT YtbnmpagjfihjjaaProg.lean LOADS. Nothing in Lean hashes anything: it is a label: what it is worth is what the hold of that sum in a sandbox is worth. -/
noncomputable def Try.pinned : Pinned := { name := "ytbnmpagjfihjjaa", sum := "4b84bb42c9486390eeac3596357c18f066252b53962b8952035db8be11bf419b", checked := Try.checked }
namespace Rows
def none {H : Type} : Left H := { results := [], args := [] }

/-- 'backstitchkeep4.SchedEach': WHATEVER THE INPUT: true; the input reads as it did. -/
def schedEachSpec : ChangeSpec := { name := "schedEach", fn := fun _ => fun
  | [d1, d2, d3] => { results := [.lit (.bool true)], args := [d1, d2, d3] }
  | _ => none }
def schedEachRow : OpenClaim := { program := "ytbnmpagjfihjjaa", sum := "4b84bb42c9486390eeac3596357c18f066252b53962b8952035db8be11bf419b", func := "backstitch/backstitchkeep4.SchedEach", spec := "schedEach", inPlace := ["slices.overlaps[int]"], unfollowed := true, recurses := true, apart := false }
def SchedEachSaid : Prop := schedEachRow.holds Try.pinned (OpenSpec.ofChange schedEachSpec)

/-- ITS FALSE NEIGHBOUR: 'it returns false'. Refute it at one input. -/
def schedEachWrong : ChangeSpec := { name := "schedEach", fn := fun _ => fun
  | [d1, d2, d3] => { results := [.lit (.bool false)], args := [d1, d2, d3] }
  | _ => none }
def SchedEachWrongFalsely : Prop := schedEachRow.holds Try.pinned (OpenSpec.ofChange schedEachWrong)

/-- 'backstitchkeep4.SchedSwaps': WHATEVER THE INPUT: true; the input reads as it did. -/
def schedSwapsSpec : ChangeSpec := { name := "schedSwaps", fn := fun _ => fun
  | [d1, d2, d3] => { results := [.lit (.bool true)], args := [d1, d2, d3] }
  | _ => none }
def schedSwapsRow : OpenClaim := { program := "ytbnmpagjfihjjaa", sum := "4b84bb42c9486390eeac3596357c18f066252b53962b8952035db8be11bf419b", func := "backstitch/backstitchkeep4.SchedSwaps", spec := "schedSwaps", inPlace := ["slices.overlaps[int]"], unfollowed := true, recurses := true, apart := false }
def SchedSwapsSaid : Prop := schedSwapsRow.holds Try.pinned (OpenSpec.ofChange schedSwapsSpec)

/-- ITS FALSE NEIGHBOUR: 'it returns false'. Refute it at one input. -/
def schedSwapsWrong : ChangeSpec := { name := "schedSwaps", fn := fun _ => fun
  | [d1, d2, d3] => { results := [.lit (.bool false)], args := [d1, d2, d3] }
  | _ => none }
def SchedSwapsWrongFalsely : Prop := schedSwapsRow.holds Try.pinned (OpenSpec.ofChange schedSwapsWrong)

/-- 'backstitchkeep4.SchedBack': WHATEVER THE INPUT: true; the input reads as it did. -/
def schedBackSpec : ChangeSpec := { name := "schedBack", fn := fun _ => fun
  | [d1, d2] => { results := [.lit (.bool true)], args := [d1, d2] }
  | _ => none }
def schedBackRow : OpenClaim := { program := "ytbnmpagjfihjjaa", sum := "4b84bb42c9486390eeac3596357c18f066252b53962b8952035db8be11bf419b", func := "backstitch/backstitchkeep4.SchedBack", spec := "schedBack", inPlace := ["slices.overlaps[int]"], unfollowed := true, recurses := true, apart := false }
def SchedBackSaid : Prop := schedBackRow.holds Try.pinned (OpenSpec.ofChange schedBackSpec)

/-- ITS FALSE NEIGHBOUR: 'it returns false'. Refute it at one input. -/
def schedBackWrong : ChangeSpec := { name := "schedBack", fn := fun _ => fun
  | [d1, d2] => { results := [.lit (.bool false)], args := [d1, d2] }
  | _ => none }
def SchedBackWrongFalsely : Prop := schedBackRow.holds Try.pinned (OpenSpec.ofChange schedBackWrong)

/- THE SECOND FORM. 'bulk': how many values and letters a reading holds, each counted each time it is reached (what is shared counts as often as it is met; a slice's spare places count too). A statement '..UptoSaid' is the law's where the arguments, and the package variables that the reading takes, are together of bulk at most 1048576: NARROWER than '..Said'. Prove '..Said' where nothing that the law and all that it calls make is longer than what came in: it says more and counts as full. Else prove '..UptoSaid'. A law counts once. -/
mutual
def uptoBulk {H : Type} : DataW H → Nat
  | .lit (.string bytes) => bytes.length + 1
  | .lit _ => 1
  | .nil => 1
  | .ptr d => uptoBulk d + 1
  | .slice elems spare => uptoBulkAll elems + uptoBulkAll spare + 1
  | .agg parts => uptoBulkAll parts + 1
  | .iface _ d => uptoBulk d + 1
  | .map entries => uptoBulkEntries entries + 1
  | .held _ => 1
def uptoBulkAll {H : Type} : List (DataW H) → Nat
  | [] => 0
  | d :: r => uptoBulk d + uptoBulkAll r
def uptoBulkEntries {H : Type} : List (Lit × DataW H) → Nat
  | [] => 0
  | x :: r => uptoBulkEntry x + uptoBulkEntries r
def uptoBulkEntry {H : Type} : Lit × DataW H → Nat
  | (.string bytes, d) => bytes.length + uptoBulk d + 1
  | (_, d) => uptoBulk d + 1
 end
def uptoSmall : (H : Type) → List (DataW H) → Bool := fun _ ds => decide (uptoBulkAll ds ≤ 1048576)
def OpenSpec.upto (s : _root_.Go.ChangeSpec) : _root_.Go.OpenSpec := { _root_.Go.OpenSpec.ofChange s with cond := some uptoSmall }

/-- 'backstitchkeep4.SchedEach', WHERE WHAT IT READS IS OF BULK AT MOST 1048576: true; the input reads as it did. -/
def schedEachUptoRow : OpenClaim := { program := "ytbnmpagjfihjjaa", sum := "4b84bb42c9486390eeac3596357c18f066252b53962b8952035db8be11bf419b", func := "backstitch/backstitchkeep4.SchedEach", spec := "schedEach", inPlace := ["slices.overlaps[int]"], unfollowed := true, recurses := true, apart := false, narrowed := true }
def SchedEachUptoSaid : Prop := schedEachUptoRow.holds Try.pinned (OpenSpec.upto schedEachSpec)

/-- 'backstitchkeep4.SchedSwaps', WHERE WHAT IT READS IS OF BULK AT MOST 1048576: true; the input reads as it did. -/
def schedSwapsUptoRow : OpenClaim := { program := "ytbnmpagjfihjjaa", sum := "4b84bb42c9486390eeac3596357c18f066252b53962b8952035db8be11bf419b", func := "backstitch/backstitchkeep4.SchedSwaps", spec := "schedSwaps", inPlace := ["slices.overlaps[int]"], unfollowed := true, recurses := true, apart := false, narrowed := true }
def SchedSwapsUptoSaid : Prop := schedSwapsUptoRow.holds Try.pinned (OpenSpec.upto schedSwapsSpec)

/-- 'backstitchkeep4.SchedBack', WHERE WHAT IT READS IS OF BULK AT MOST 1048576: true; the input reads as it did. -/
def schedBackUptoRow : OpenClaim := { program := "ytbnmpagjfihjjaa", sum := "4b84bb42c9486390eeac3596357c18f066252b53962b8952035db8be11bf419b", func := "backstitch/backstitchkeep4.SchedBack", spec := "schedBack", inPlace := ["slices.overlaps[int]"], unfollowed := true, recurses := true, apart := false, narrowed := true }
def SchedBackUptoSaid : Prop := schedBackUptoRow.holds Try.pinned (OpenSpec.upto schedBackSpec)

end Rows
end Go.Proofs.Ytbnmpagjfihjjaa
