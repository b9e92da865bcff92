/-
  No cell of these rows narrows 'for every input' (looked for: loops, veiled, ifaces, maps, wideKeys, modest, calm, conditions, laid).
  DERIVED. THE GIVEN ROWS OF THIS SEAT. 3 by the template 'for every input the law returns true; each argument reads behind the call as it read before'; 0 by the template 'total and deterministic' (their statements: YtkhjppkhbiojoaaTotals.lean).
  GIVEN WITH THE SEED: the statements are not yours to turn. If you find one false, say at which input.
  Laid BY PROGRAM, IN A SANDBOX (cutbox-rows.mjs): the forced cells as the released guide's own fill.sh prints them over the translation 8a53efb2983beb46… (all of the seat's roots in one cut). By AI agents, Wed Nov 11 2026. No macro, syntax, notation, axiom, sorry.
-/
import Derived.Test.YtkhjppkhbiojoaaChecked
import GoSem.Claim
import GoSem.ClaimJoined
import GoSem.ClaimMapViews
import Derived.JoinedTies
import Derived.KernelRfl
namespace Go.Proofs.Ytkhjppkhbiojoaa
/- THE CELL 'sum', in the pinned program and in every row, IS THE sha256 OF THE DUMP (.gsa) THAT YtkhjppkhbiojoaaProg.lean LOADS. Nothing in Lean hashes anything: it is a label: what it is worth is what the hold of that sum in a sandbox is worth. -/
noncomputable def Try.pinned : Pinned := { name := "ytkhjppkhbiojoaa", sum := "8a53efb2983beb46736fe0318c3ab9a629b92d85939c2359be3b50344ab83c07", checked := Try.checked }
namespace Rows
def none {H : Type} : Left H := { results := [], args := [] }

/-- 'backstitchkeep4.SmallOne': WHATEVER THE INPUT: true; the input reads as it did. -/
def smallOneSpec : ChangeSpec := { name := "smallOne", fn := fun _ => fun
  | [d1, d2, d3] => { results := [.lit (.bool true)], args := [d1, d2, d3] }
  | _ => none }
def smallOneRow : OpenClaim := { program := "ytkhjppkhbiojoaa", sum := "8a53efb2983beb46736fe0318c3ab9a629b92d85939c2359be3b50344ab83c07", func := "backstitch/backstitchkeep4.SmallOne", spec := "smallOne", unfollowed := true, recurses := true, apart := false }
def SmallOneSaid : Prop := smallOneRow.holds Try.pinned (OpenSpec.ofChange smallOneSpec)

/-- ITS FALSE NEIGHBOUR: 'it returns false'. Refute it at one input. -/
def smallOneWrong : ChangeSpec := { name := "smallOne", fn := fun _ => fun
  | [d1, d2, d3] => { results := [.lit (.bool false)], args := [d1, d2, d3] }
  | _ => none }
def SmallOneWrongFalsely : Prop := smallOneRow.holds Try.pinned (OpenSpec.ofChange smallOneWrong)

/-- 'backstitchkeep4.SmallAll': WHATEVER THE INPUT: true; the input reads as it did. -/
def smallAllSpec : ChangeSpec := { name := "smallAll", fn := fun _ => fun
  | [d1, d2] => { results := [.lit (.bool true)], args := [d1, d2] }
  | _ => none }
def smallAllRow : OpenClaim := { program := "ytkhjppkhbiojoaa", sum := "8a53efb2983beb46736fe0318c3ab9a629b92d85939c2359be3b50344ab83c07", func := "backstitch/backstitchkeep4.SmallAll", spec := "smallAll", unfollowed := true, recurses := true, apart := false }
def SmallAllSaid : Prop := smallAllRow.holds Try.pinned (OpenSpec.ofChange smallAllSpec)

/-- ITS FALSE NEIGHBOUR: 'it returns false'. Refute it at one input. -/
def smallAllWrong : ChangeSpec := { name := "smallAll", fn := fun _ => fun
  | [d1, d2] => { results := [.lit (.bool false)], args := [d1, d2] }
  | _ => none }
def SmallAllWrongFalsely : Prop := smallAllRow.holds Try.pinned (OpenSpec.ofChange smallAllWrong)

/-- 'backstitchkeep4.SmallParts': WHATEVER THE INPUT: true; the input reads as it did. -/
def smallPartsSpec : ChangeSpec := { name := "smallParts", fn := fun _ => fun
  | [d1, d2, d3, d4] => { results := [.lit (.bool true)], args := [d1, d2, d3, d4] }
  | _ => none }
def smallPartsRow : OpenClaim := { program := "ytkhjppkhbiojoaa", sum := "8a53efb2983beb46736fe0318c3ab9a629b92d85939c2359be3b50344ab83c07", func := "backstitch/backstitchkeep4.SmallParts", spec := "smallParts", unfollowed := true, recurses := true, apart := false }
def SmallPartsSaid : Prop := smallPartsRow.holds Try.pinned (OpenSpec.ofChange smallPartsSpec)

/-- ITS FALSE NEIGHBOUR: 'it returns false'. Refute it at one input. -/
def smallPartsWrong : ChangeSpec := { name := "smallParts", fn := fun _ => fun
  | [d1, d2, d3, d4] => { results := [.lit (.bool false)], args := [d1, d2, d3, d4] }
  | _ => none }
def SmallPartsWrongFalsely : Prop := smallPartsRow.holds Try.pinned (OpenSpec.ofChange smallPartsWrong)

/- THE SECOND FORM. 'bulk': how many values and letters a reading holds, each counted each time it is reached (what is shared counts as often as it is met; a slice's spare places count too). A statement '..UptoSaid' is the law's where the arguments, and the package variables that the reading takes, are together of bulk at most 1048576: NARROWER than '..Said'. Prove '..Said' where nothing that the law and all that it calls make is longer than what came in: it says more and counts as full. Else prove '..UptoSaid'. A law counts once. -/
mutual
def uptoBulk {H : Type} : DataW H → Nat
  | .lit (.string bytes) => bytes.length + 1
  | .lit _ => 1
  | .nil => 1
  | .ptr d => uptoBulk d + 1
  | .slice elems spare => uptoBulkAll elems + uptoBulkAll spare + 1
  | .agg parts => uptoBulkAll parts + 1
  | .iface _ d => uptoBulk d + 1
  | .map entries => uptoBulkEntries entries + 1
  | .held _ => 1
def uptoBulkAll {H : Type} : List (DataW H) → Nat
  | [] => 0
  | d :: r => uptoBulk d + uptoBulkAll r
def uptoBulkEntries {H : Type} : List (Lit × DataW H) → Nat
  | [] => 0
  | x :: r => uptoBulkEntry x + uptoBulkEntries r
def uptoBulkEntry {H : Type} : Lit × DataW H → Nat
  | (.string bytes, d) => bytes.length + uptoBulk d + 1
  | (_, d) => uptoBulk d + 1
 end
def uptoSmall : (H : Type) → List (DataW H) → Bool := fun _ ds => decide (uptoBulkAll ds ≤ 1048576)
def OpenSpec.upto (s : _root_.Go.ChangeSpec) : _root_.Go.OpenSpec := { _root_.Go.OpenSpec.ofChange s with cond := some uptoSmall }

/-- 'backstitchkeep4.SmallOne', WHERE WHAT IT READS IS OF BULK AT MOST 1048576: true; the input reads as it did. -/
def smallOneUptoRow : OpenClaim := { program := "ytkhjppkhbiojoaa", sum := "8a53efb2983beb46736fe0318c3ab9a629b92d85939c2359be3b50344ab83c07", func := "backstitch/backstitchkeep4.SmallOne", spec := "smallOne", unfollowed := true, recurses := true, apart := false, narrowed := true }
def SmallOneUptoSaid : Prop := smallOneUptoRow.holds Try.pinned (OpenSpec.upto smallOneSpec)

/-- 'backstitchkeep4.SmallAll', WHERE WHAT IT READS IS OF BULK AT MOST 1048576: true; the input reads as it did. -/
def smallAllUptoRow : OpenClaim := { program := "ytkhjppkhbiojoaa", sum := "8a53efb2983beb46736fe0318c3ab9a629b92d85939c2359be3b50344ab83c07", func := "backstitch/backstitchkeep4.SmallAll", spec := "smallAll", unfollowed := true, recurses := true, apart := false, narrowed := true }
def SmallAllUptoSaid : Prop := smallAllUptoRow.holds Try.pinned (OpenSpec.upto smallAllSpec)

/-- 'backstitchkeep4.SmallParts', WHERE WHAT IT READS IS OF BULK AT MOST 1048576: true; the input reads as it did. -/
def smallPartsUptoRow : OpenClaim := { program := "ytkhjppkhbiojoaa", sum := "8a53efb2983beb46736fe0318c3ab9a629b92d85939c2359be3b50344ab83c07", func := "backstitch/backstitchkeep4.SmallParts", spec := "smallParts", unfollowed := true, recurses := true, apart := false, narrowed := true }
def SmallPartsUptoSaid : Prop := smallPartsUptoRow.holds Try.pinned (OpenSpec.upto smallPartsSpec)

end Rows
end Go.Proofs.Ytkhjppkhbiojoaa
