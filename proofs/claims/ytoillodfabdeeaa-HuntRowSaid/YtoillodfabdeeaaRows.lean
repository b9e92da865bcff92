/-
  No cell of these rows narrows 'for every input' (looked for: loops, veiled, ifaces, maps, wideKeys, modest, calm, conditions, laid).
  DERIVED. THE GIVEN ROWS OF THIS SEAT. 3 by the template 'for every input the law returns true; each argument reads behind the call as it read before'; 0 by the template 'total and deterministic' (their statements: YtoillodfabdeeaaTotals.lean).
  GIVEN WITH THE SEED: the statements are not yours to turn. If you find one false, say at which input.
  Laid BY PROGRAM, IN A SANDBOX (cutbox-rows.mjs): the forced cells as the released guide's own fill.sh prints them over the translation 64f8ab7b2bdd332b… (all of the seat's roots in one cut). By AI agents, Wed Nov 11 2026. No macro, syntax, notation, axiom, sorry.
-/
import Derived.Test.YtoillodfabdeeaaChecked
import GoSem.Claim
import GoSem.ClaimJoined
import GoSem.ClaimMapViews
import Derived.JoinedTies
import Derived.KernelRfl
namespace Go.Proofs.Ytoillodfabdeeaa
/- THE CELL 'sum', in the pinned program and in every row, IS THE sha256 OF THE DUMP (.gsa) THAT YtoillodfabdeeaaProg.lean LOADS. Nothing in Lean hashes anything: it is a label: what it is worth is what the hold of that sum in a sandbox is worth. -/
noncomputable def Try.pinned : Pinned := { name := "ytoillodfabdeeaa", sum := "64f8ab7b2bdd332b8af6606ec1097545c044c47a27b0e1c10f3d15576feb05a6", checked := Try.checked }
namespace Rows
def none {H : Type} : Left H := { results := [], args := [] }

/-- 'backstitchkeep4.HuntFinds': WHATEVER THE INPUT: true; the input reads as it did. -/
def huntFindsSpec : ChangeSpec := { name := "huntFinds", fn := fun _ => fun
  | [d1, d2, d3, d4] => { results := [.lit (.bool true)], args := [d1, d2, d3, d4] }
  | _ => none }
def huntFindsRow : OpenClaim := { program := "ytoillodfabdeeaa", sum := "64f8ab7b2bdd332b8af6606ec1097545c044c47a27b0e1c10f3d15576feb05a6", func := "backstitch/backstitchkeep4.HuntFinds", spec := "huntFinds", unfollowed := true, recurses := true, apart := false }
def HuntFindsSaid : Prop := huntFindsRow.holds Try.pinned (OpenSpec.ofChange huntFindsSpec)

/-- ITS FALSE NEIGHBOUR: 'it returns false'. Refute it at one input. -/
def huntFindsWrong : ChangeSpec := { name := "huntFinds", fn := fun _ => fun
  | [d1, d2, d3, d4] => { results := [.lit (.bool false)], args := [d1, d2, d3, d4] }
  | _ => none }
def HuntFindsWrongFalsely : Prop := huntFindsRow.holds Try.pinned (OpenSpec.ofChange huntFindsWrong)

/-- 'backstitchkeep4.HuntRow': WHATEVER THE INPUT: true; the input reads as it did. -/
def huntRowSpec : ChangeSpec := { name := "huntRow", fn := fun _ => fun
  | [d1, d2] => { results := [.lit (.bool true)], args := [d1, d2] }
  | _ => none }
def huntRowRow : OpenClaim := { program := "ytoillodfabdeeaa", sum := "64f8ab7b2bdd332b8af6606ec1097545c044c47a27b0e1c10f3d15576feb05a6", func := "backstitch/backstitchkeep4.HuntRow", spec := "huntRow", unfollowed := true, recurses := true, apart := false }
def HuntRowSaid : Prop := huntRowRow.holds Try.pinned (OpenSpec.ofChange huntRowSpec)

/-- ITS FALSE NEIGHBOUR: 'it returns false'. Refute it at one input. -/
def huntRowWrong : ChangeSpec := { name := "huntRow", fn := fun _ => fun
  | [d1, d2] => { results := [.lit (.bool false)], args := [d1, d2] }
  | _ => none }
def HuntRowWrongFalsely : Prop := huntRowRow.holds Try.pinned (OpenSpec.ofChange huntRowWrong)

/-- 'backstitchkeep4.HuntParts': WHATEVER THE INPUT: true; the input reads as it did. -/
def huntPartsSpec : ChangeSpec := { name := "huntParts", fn := fun _ => fun
  | [d1, d2, d3] => { results := [.lit (.bool true)], args := [d1, d2, d3] }
  | _ => none }
def huntPartsRow : OpenClaim := { program := "ytoillodfabdeeaa", sum := "64f8ab7b2bdd332b8af6606ec1097545c044c47a27b0e1c10f3d15576feb05a6", func := "backstitch/backstitchkeep4.HuntParts", spec := "huntParts", unfollowed := true, recurses := true, apart := false }
def HuntPartsSaid : Prop := huntPartsRow.holds Try.pinned (OpenSpec.ofChange huntPartsSpec)

/-- ITS FALSE NEIGHBOUR: 'it returns false'. Refute it at one input. -/
def huntPartsWrong : ChangeSpec := { name := "huntParts", fn := fun _ => fun
  | [d1, d2, d3] => { results := [.lit (.bool false)], args := [d1, d2, d3] }
  | _ => none }
def HuntPartsWrongFalsely : Prop := huntPartsRow.holds Try.pinned (OpenSpec.ofChange huntPartsWrong)

/- THE SECOND FORM. 'bulk': how many values and letters a reading holds, each counted each time it is reached (what is shared counts as often as it is met; a slice's spare places count too). A statement '..UptoSaid' is the law's where the arguments, and the package variables that the reading takes, are together of bulk at most 1048576: NARROWER than '..Said'. Prove '..Said' where nothing that the law and all that it calls make is longer than what came in: it says more and counts as full. Else prove '..UptoSaid'. A law counts once. -/
mutual
def uptoBulk {H : Type} : DataW H → Nat
  | .lit (.string bytes) => bytes.length + 1
  | .lit _ => 1
  | .nil => 1
  | .ptr d => uptoBulk d + 1
  | .slice elems spare => uptoBulkAll elems + uptoBulkAll spare + 1
  | .agg parts => uptoBulkAll parts + 1
  | .iface _ d => uptoBulk d + 1
  | .map entries => uptoBulkEntries entries + 1
  | .held _ => 1
def uptoBulkAll {H : Type} : List (DataW H) → Nat
  | [] => 0
  | d :: r => uptoBulk d + uptoBulkAll r
def uptoBulkEntries {H : Type} : List (Lit × DataW H) → Nat
  | [] => 0
  | x :: r => uptoBulkEntry x + uptoBulkEntries r
def uptoBulkEntry {H : Type} : Lit × DataW H → Nat
  | (.string bytes, d) => bytes.length + uptoBulk d + 1
  | (_, d) => uptoBulk d + 1
 end
def uptoSmall : (H : Type) → List (DataW H) → Bool := fun _ ds => decide (uptoBulkAll ds ≤ 1048576)
def OpenSpec.upto (s : _root_.Go.ChangeSpec) : _root_.Go.OpenSpec := { _root_.Go.OpenSpec.ofChange s with cond := some uptoSmall }

/-- 'backstitchkeep4.HuntFinds', WHERE WHAT IT READS IS OF BULK AT MOST 1048576: true; the input reads as it did. -/
def huntFindsUptoRow : OpenClaim := { program := "ytoillodfabdeeaa", sum := "64f8ab7b2bdd332b8af6606ec1097545c044c47a27b0e1c10f3d15576feb05a6", func := "backstitch/backstitchkeep4.HuntFinds", spec := "huntFinds", unfollowed := true, recurses := true, apart := false, narrowed := true }
def HuntFindsUptoSaid : Prop := huntFindsUptoRow.holds Try.pinned (OpenSpec.upto huntFindsSpec)

/-- 'backstitchkeep4.HuntRow', WHERE WHAT IT READS IS OF BULK AT MOST 1048576: true; the input reads as it did. -/
def huntRowUptoRow : OpenClaim := { program := "ytoillodfabdeeaa", sum := "64f8ab7b2bdd332b8af6606ec1097545c044c47a27b0e1c10f3d15576feb05a6", func := "backstitch/backstitchkeep4.HuntRow", spec := "huntRow", unfollowed := true, recurses := true, apart := false, narrowed := true }
def HuntRowUptoSaid : Prop := huntRowUptoRow.holds Try.pinned (OpenSpec.upto huntRowSpec)

/-- 'backstitchkeep4.HuntParts', WHERE WHAT IT READS IS OF BULK AT MOST 1048576: true; the input reads as it did. -/
def huntPartsUptoRow : OpenClaim := { program := "ytoillodfabdeeaa", sum := "64f8ab7b2bdd332b8af6606ec1097545c044c47a27b0e1c10f3d15576feb05a6", func := "backstitch/backstitchkeep4.HuntParts", spec := "huntParts", unfollowed := true, recurses := true, apart := false, narrowed := true }
def HuntPartsUptoSaid : Prop := huntPartsUptoRow.holds Try.pinned (OpenSpec.upto huntPartsSpec)

end Rows
end Go.Proofs.Ytoillodfabdeeaa
