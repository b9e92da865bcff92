/-
  No cell of these rows narrows 'for every input' (looked for: loops, veiled, ifaces, maps, wideKeys, modest, calm, conditions, laid).
  DERIVED. THE GIVEN ROWS OF THIS SEAT. 3 by the template 'for every input the law returns true; each argument reads behind the call as it read before'; 0 by the template 'total and deterministic' (their statements: YtnpfkhaaogjhlaaTotals.lean).
  GIVEN WITH THE SEED: the statements are not yours to turn. If you find one false, say at which input.
  Laid BY PROGRAM, IN A SANDBOX (cutbox-rows.mjs): the forced cells as the released guide's own fill.sh prints them over the translation 3ad49452fb64c06d… (all of the seat's roots in one cut). By AI agents, Wed Nov 11 2026. No macro, syntax, notation, axiom, sorry.
-/
import Derived.Test.YtnpfkhaaogjhlaaChecked
import GoSem.Claim
import GoSem.ClaimJoined
import GoSem.ClaimMapViews
import Derived.JoinedTies
import Derived.KernelRfl
namespace Go.Proofs.Ytnpfkhaaogjhlaa
/- THE CELL 'sum', in the pinned program and in every row, IS THE sha256 OF THE DUMP (.gsa) THAT YtnpfkhaaogjhlaaProg.lean LOADS. Nothing in Lean hashes anything: it is a label: what it is worth is what the hold of that sum in a sandbox is worth. -/
noncomputable def Try.pinned : Pinned := { name := "ytnpfkhaaogjhlaa", sum := "3ad49452fb64c06d8b5a78b8047d1e9925c9a5bf483f1a5d89ae1f809b77dfcc", checked := Try.checked }
namespace Rows
def none {H : Type} : Left H := { results := [], args := [] }

/-- 'backstitchkeep4.SpoolBack': WHATEVER THE INPUT: true; the input reads as it did. -/
def spoolBackSpec : ChangeSpec := { name := "spoolBack", fn := fun _ => fun
  | [d1, d2] => { results := [.lit (.bool true)], args := [d1, d2] }
  | _ => none }
def spoolBackRow : OpenClaim := { program := "ytnpfkhaaogjhlaa", sum := "3ad49452fb64c06d8b5a78b8047d1e9925c9a5bf483f1a5d89ae1f809b77dfcc", func := "backstitch/backstitchkeep4.SpoolBack", spec := "spoolBack", unfollowed := true, recurses := true, apart := false }
def SpoolBackSaid : Prop := spoolBackRow.holds Try.pinned (OpenSpec.ofChange spoolBackSpec)

/-- ITS FALSE NEIGHBOUR: 'it returns false'. Refute it at one input. -/
def spoolBackWrong : ChangeSpec := { name := "spoolBack", fn := fun _ => fun
  | [d1, d2] => { results := [.lit (.bool false)], args := [d1, d2] }
  | _ => none }
def SpoolBackWrongFalsely : Prop := spoolBackRow.holds Try.pinned (OpenSpec.ofChange spoolBackWrong)

/-- 'backstitchkeep4.SpoolTorn': WHATEVER THE INPUT: true; the input reads as it did. -/
def spoolTornSpec : ChangeSpec := { name := "spoolTorn", fn := fun _ => fun
  | [d1, d2] => { results := [.lit (.bool true)], args := [d1, d2] }
  | _ => none }
def spoolTornRow : OpenClaim := { program := "ytnpfkhaaogjhlaa", sum := "3ad49452fb64c06d8b5a78b8047d1e9925c9a5bf483f1a5d89ae1f809b77dfcc", func := "backstitch/backstitchkeep4.SpoolTorn", spec := "spoolTorn", unfollowed := true, recurses := true, apart := false }
def SpoolTornSaid : Prop := spoolTornRow.holds Try.pinned (OpenSpec.ofChange spoolTornSpec)

/-- ITS FALSE NEIGHBOUR: 'it returns false'. Refute it at one input. -/
def spoolTornWrong : ChangeSpec := { name := "spoolTorn", fn := fun _ => fun
  | [d1, d2] => { results := [.lit (.bool false)], args := [d1, d2] }
  | _ => none }
def SpoolTornWrongFalsely : Prop := spoolTornRow.holds Try.pinned (OpenSpec.ofChange spoolTornWrong)

/-- 'backstitchkeep4.SpoolBit': WHATEVER THE INPUT: true; the input reads as it did. -/
def spoolBitSpec : ChangeSpec := { name := "spoolBit", fn := fun _ => fun
  | [d1, d2] => { results := [.lit (.bool true)], args := [d1, d2] }
  | _ => none }
def spoolBitRow : OpenClaim := { program := "ytnpfkhaaogjhlaa", sum := "3ad49452fb64c06d8b5a78b8047d1e9925c9a5bf483f1a5d89ae1f809b77dfcc", func := "backstitch/backstitchkeep4.SpoolBit", spec := "spoolBit", unfollowed := true, recurses := true, apart := false }
def SpoolBitSaid : Prop := spoolBitRow.holds Try.pinned (OpenSpec.ofChange spoolBitSpec)

/-- ITS FALSE NEIGHBOUR: 'it returns false'. Refute it at one input. -/
def spoolBitWrong : ChangeSpec := { name := "spoolBit", fn := fun _ => fun
  | [d1, d2] => { results := [.lit (.bool false)], args := [d1, d2] }
  | _ => none }
def SpoolBitWrongFalsely : Prop := spoolBitRow.holds Try.pinned (OpenSpec.ofChange spoolBitWrong)

/- THE SECOND FORM. 'bulk': how many values and letters a reading holds, each counted each time it is reached (what is shared counts as often as it is met; a slice's spare places count too). A statement '..UptoSaid' is the law's where the arguments, and the package variables that the reading takes, are together of bulk at most 1048576: NARROWER than '..Said'. Prove '..Said' where nothing that the law and all that it calls make is longer than what came in: it says more and counts as full. Else prove '..UptoSaid'. A law counts once. -/
mutual
def uptoBulk {H : Type} : DataW H → Nat
  | .lit (.string bytes) => bytes.length + 1
  | .lit _ => 1
  | .nil => 1
  | .ptr d => uptoBulk d + 1
  | .slice elems spare => uptoBulkAll elems + uptoBulkAll spare + 1
  | .agg parts => uptoBulkAll parts + 1
  | .iface _ d => uptoBulk d + 1
  | .map entries => uptoBulkEntries entries + 1
  | .held _ => 1
def uptoBulkAll {H : Type} : List (DataW H) → Nat
  | [] => 0
  | d :: r => uptoBulk d + uptoBulkAll r
def uptoBulkEntries {H : Type} : List (Lit × DataW H) → Nat
  | [] => 0
  | x :: r => uptoBulkEntry x + uptoBulkEntries r
def uptoBulkEntry {H : Type} : Lit × DataW H → Nat
  | (.string bytes, d) => bytes.length + uptoBulk d + 1
  | (_, d) => uptoBulk d + 1
 end
def uptoSmall : (H : Type) → List (DataW H) → Bool := fun _ ds => decide (uptoBulkAll ds ≤ 1048576)
def OpenSpec.upto (s : _root_.Go.ChangeSpec) : _root_.Go.OpenSpec := { _root_.Go.OpenSpec.ofChange s with cond := some uptoSmall }

/-- 'backstitchkeep4.SpoolBack', WHERE WHAT IT READS IS OF BULK AT MOST 1048576: true; the input reads as it did. -/
def spoolBackUptoRow : OpenClaim := { program := "ytnpfkhaaogjhlaa", sum := "3ad49452fb64c06d8b5a78b8047d1e9925c9a5bf483f1a5d89ae1f809b77dfcc", func := "backstitch/backstitchkeep4.SpoolBack", spec := "spoolBack", unfollowed := true, recurses := true, apart := false, narrowed := true }
def SpoolBackUptoSaid : Prop := spoolBackUptoRow.holds Try.pinned (OpenSpec.upto spoolBackSpec)

/-- 'backstitchkeep4.SpoolTorn', WHERE WHAT IT READS IS OF BULK AT MOST 1048576: true; the input reads as it did. -/
def spoolTornUptoRow : OpenClaim := { program := "ytnpfkhaaogjhlaa", sum := "3ad49452fb64c06d8b5a78b8047d1e9925c9a5bf483f1a5d89ae1f809b77dfcc", func := "backstitch/backstitchkeep4.SpoolTorn", spec := "spoolTorn", unfollowed := true, recurses := true, apart := false, narrowed := true }
def SpoolTornUptoSaid : Prop := spoolTornUptoRow.holds Try.pinned (OpenSpec.upto spoolTornSpec)

/-- 'backstitchkeep4.SpoolBit', WHERE WHAT IT READS IS OF BULK AT MOST 1048576: true; the input reads as it did. -/
def spoolBitUptoRow : OpenClaim := { program := "ytnpfkhaaogjhlaa", sum := "3ad49452fb64c06d8b5a78b8047d1e9925c9a5bf483f1a5d89ae1f809b77dfcc", func := "backstitch/backstitchkeep4.SpoolBit", spec := "spoolBit", unfollowed := true, recurses := true, apart := false, narrowed := true }
def SpoolBitUptoSaid : Prop := spoolBitUptoRow.holds Try.pinned (OpenSpec.upto spoolBitSpec)

end Rows
end Go.Proofs.Ytnpfkhaaogjhlaa
