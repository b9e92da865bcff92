/-
  No cell of these rows narrows 'for every input' (looked for: loops, veiled, ifaces, maps, wideKeys, modest, calm, conditions, laid).
  DERIVED. THE GIVEN ROWS OF THIS SEAT. 3 by the template 'for every input the law returns true; each argument reads behind the call as it read before'; 0 by the template 'total and deterministic' (their statements: YtfcimbhjoioinaaTotals.lean).
  GIVEN WITH THE SEED: the statements are not yours to turn. If you find one false, say at which input.
  Laid BY PROGRAM, IN A SANDBOX (cutbox-rows.mjs): the forced cells as the released guide's own fill.sh prints them over the translation a180f6403cc0e2ae… (all of the seat's roots in one cut). By AI agents, Wed Nov 11 2026. No macro, syntax, notation, axiom, sorry.
-/
import Derived.Test.YtfcimbhjoioinaaChecked
import GoSem.Claim
import GoSem.ClaimJoined
import GoSem.ClaimMapViews
import Derived.JoinedTies
import Derived.KernelRfl
namespace Go.Proofs.Ytfcimbhjoioinaa
/- THE CELL 'sum', in the pinned program and in every row, IS THE sha256 OF THE DUMP (.gsa) THAT YtfcimbhjoioinaaProg.lean LOADS. Nothing in Lean hashes anything: it is a label: what it is worth is what the hold of that sum in a sandbox is worth. -/
noncomputable def Try.pinned : Pinned := { name := "ytfcimbhjoioinaa", sum := "a180f6403cc0e2ae48eb56c3d72e2680134479550090933c3a6df293fd5a10b4", checked := Try.checked }
namespace Rows
def none {H : Type} : Left H := { results := [], args := [] }

/-- 'backstitchkeep4.LockupEither': WHATEVER THE INPUT: true; the input reads as it did. -/
def lockupEitherSpec : ChangeSpec := { name := "lockupEither", fn := fun _ => fun
  | [d] => { results := [.lit (.bool true)], args := [d] }
  | _ => none }
def lockupEitherRow : OpenClaim := { program := "ytfcimbhjoioinaa", sum := "a180f6403cc0e2ae48eb56c3d72e2680134479550090933c3a6df293fd5a10b4", func := "backstitch/backstitchkeep4.LockupEither", spec := "lockupEither", unfollowed := true, recurses := true, apart := false }
def LockupEitherSaid : Prop := lockupEitherRow.holds Try.pinned (OpenSpec.ofChange lockupEitherSpec)

/-- ITS FALSE NEIGHBOUR: 'it returns false'. Refute it at one input. -/
def lockupEitherWrong : ChangeSpec := { name := "lockupEither", fn := fun _ => fun
  | [d] => { results := [.lit (.bool false)], args := [d] }
  | _ => none }
def LockupEitherWrongFalsely : Prop := lockupEitherRow.holds Try.pinned (OpenSpec.ofChange lockupEitherWrong)

/-- 'backstitchkeep4.LockupRank': WHATEVER THE INPUT: true; the input reads as it did. -/
def lockupRankSpec : ChangeSpec := { name := "lockupRank", fn := fun _ => fun
  | [d1, d2] => { results := [.lit (.bool true)], args := [d1, d2] }
  | _ => none }
def lockupRankRow : OpenClaim := { program := "ytfcimbhjoioinaa", sum := "a180f6403cc0e2ae48eb56c3d72e2680134479550090933c3a6df293fd5a10b4", func := "backstitch/backstitchkeep4.LockupRank", spec := "lockupRank", unfollowed := true, recurses := true, apart := false }
def LockupRankSaid : Prop := lockupRankRow.holds Try.pinned (OpenSpec.ofChange lockupRankSpec)

/-- ITS FALSE NEIGHBOUR: 'it returns false'. Refute it at one input. -/
def lockupRankWrong : ChangeSpec := { name := "lockupRank", fn := fun _ => fun
  | [d1, d2] => { results := [.lit (.bool false)], args := [d1, d2] }
  | _ => none }
def LockupRankWrongFalsely : Prop := lockupRankRow.holds Try.pinned (OpenSpec.ofChange lockupRankWrong)

/-- 'backstitchkeep4.LockupSafe': WHATEVER THE INPUT: true; the input reads as it did. -/
def lockupSafeSpec : ChangeSpec := { name := "lockupSafe", fn := fun _ => fun
  | [d1, d2] => { results := [.lit (.bool true)], args := [d1, d2] }
  | _ => none }
def lockupSafeRow : OpenClaim := { program := "ytfcimbhjoioinaa", sum := "a180f6403cc0e2ae48eb56c3d72e2680134479550090933c3a6df293fd5a10b4", func := "backstitch/backstitchkeep4.LockupSafe", spec := "lockupSafe", unfollowed := true, recurses := true, apart := false }
def LockupSafeSaid : Prop := lockupSafeRow.holds Try.pinned (OpenSpec.ofChange lockupSafeSpec)

/-- ITS FALSE NEIGHBOUR: 'it returns false'. Refute it at one input. -/
def lockupSafeWrong : ChangeSpec := { name := "lockupSafe", fn := fun _ => fun
  | [d1, d2] => { results := [.lit (.bool false)], args := [d1, d2] }
  | _ => none }
def LockupSafeWrongFalsely : Prop := lockupSafeRow.holds Try.pinned (OpenSpec.ofChange lockupSafeWrong)

/- THE SECOND FORM. 'bulk': how many values and letters a reading holds, each counted each time it is reached (what is shared counts as often as it is met; a slice's spare places count too). A statement '..UptoSaid' is the law's where the arguments, and the package variables that the reading takes, are together of bulk at most 1048576: NARROWER than '..Said'. Prove '..Said' where nothing that the law and all that it calls make is longer than what came in: it says more and counts as full. Else prove '..UptoSaid'. A law counts once. -/
mutual
def uptoBulk {H : Type} : DataW H → Nat
  | .lit (.string bytes) => bytes.length + 1
  | .lit _ => 1
  | .nil => 1
  | .ptr d => uptoBulk d + 1
  | .slice elems spare => uptoBulkAll elems + uptoBulkAll spare + 1
  | .agg parts => uptoBulkAll parts + 1
  | .iface _ d => uptoBulk d + 1
  | .map entries => uptoBulkEntries entries + 1
  | .held _ => 1
def uptoBulkAll {H : Type} : List (DataW H) → Nat
  | [] => 0
  | d :: r => uptoBulk d + uptoBulkAll r
def uptoBulkEntries {H : Type} : List (Lit × DataW H) → Nat
  | [] => 0
  | x :: r => uptoBulkEntry x + uptoBulkEntries r
def uptoBulkEntry {H : Type} : Lit × DataW H → Nat
  | (.string bytes, d) => bytes.length + uptoBulk d + 1
  | (_, d) => uptoBulk d + 1
 end
def uptoSmall : (H : Type) → List (DataW H) → Bool := fun _ ds => decide (uptoBulkAll ds ≤ 1048576)
def OpenSpec.upto (s : _root_.Go.ChangeSpec) : _root_.Go.OpenSpec := { _root_.Go.OpenSpec.ofChange s with cond := some uptoSmall }

/-- 'backstitchkeep4.LockupEither', WHERE WHAT IT READS IS OF BULK AT MOST 1048576: true; the input reads as it did. -/
def lockupEitherUptoRow : OpenClaim := { program := "ytfcimbhjoioinaa", sum := "a180f6403cc0e2ae48eb56c3d72e2680134479550090933c3a6df293fd5a10b4", func := "backstitch/backstitchkeep4.LockupEither", spec := "lockupEither", unfollowed := true, recurses := true, apart := false, narrowed := true }
def LockupEitherUptoSaid : Prop := lockupEitherUptoRow.holds Try.pinned (OpenSpec.upto lockupEitherSpec)

/-- 'backstitchkeep4.LockupRank', WHERE WHAT IT READS IS OF BULK AT MOST 1048576: true; the input reads as it did. -/
def lockupRankUptoRow : OpenClaim := { program := "ytfcimbhjoioinaa", sum := "a180f6403cc0e2ae48eb56c3d72e2680134479550090933c3a6df293fd5a10b4", func := "backstitch/backstitchkeep4.LockupRank", spec := "lockupRank", unfollowed := true, recurses := true, apart := false, narrowed := true }
def LockupRankUptoSaid : Prop := lockupRankUptoRow.holds Try.pinned (OpenSpec.upto lockupRankSpec)

/-- 'backstitchkeep4.LockupSafe', WHERE WHAT IT READS IS OF BULK AT MOST 1048576: true; the input reads as it did. -/
def lockupSafeUptoRow : OpenClaim := { program := "ytfcimbhjoioinaa", sum := "a180f6403cc0e2ae48eb56c3d72e2680134479550090933c3a6df293fd5a10b4", func := "backstitch/backstitchkeep4.LockupSafe", spec := "lockupSafe", unfollowed := true, recurses := true, apart := false, narrowed := true }
def LockupSafeUptoSaid : Prop := lockupSafeUptoRow.holds Try.pinned (OpenSpec.upto lockupSafeSpec)

end Rows
end Go.Proofs.Ytfcimbhjoioinaa
