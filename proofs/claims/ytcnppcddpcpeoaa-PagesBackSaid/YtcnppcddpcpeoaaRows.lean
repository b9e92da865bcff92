/-
  No cell of these rows narrows 'for every input' (looked for: loops, veiled, ifaces, maps, wideKeys, modest, calm, conditions, laid).
  DERIVED. THE GIVEN ROWS OF THIS SEAT. 3 by the template 'for every input the law returns true; each argument reads behind the call as it read before'; 0 by the template 'total and deterministic' (their statements: YtcnppcddpcpeoaaTotals.lean).
  GIVEN WITH THE SEED: the statements are not yours to turn. If you find one false, say at which input.
  Laid BY PROGRAM, IN A SANDBOX (cutbox-rows.mjs): the forced cells as the released guide's own fill.sh prints them over the translation 58de74d1c0b15e61… (all of the seat's roots in one cut). By AI agents, Wed Nov 11 2026. No macro, syntax, notation, axiom, sorry.
-/
import Derived.Test.YtcnppcddpcpeoaaChecked
import GoSem.Claim
import GoSem.ClaimJoined
import GoSem.ClaimMapViews
import Derived.JoinedTies
import Derived.KernelRfl
namespace Go.Proofs.Ytcnppcddpcpeoaa
/- THE CELL 'sum', in the pinned program and in every row, IS THE sha256 OF THE DUMP (.gsa) THAT YtcnppcddpcpeoaaProg.lean LOADS. Nothing in Lean hashes anything: it is a label: what it is worth is what the hold of that sum in a sandbox is worth. -/
noncomputable def Try.pinned : Pinned := { name := "ytcnppcddpcpeoaa", sum := "58de74d1c0b15e61efbbc51f97c28662e7b0856f861268c55ee0c3ed1e530ceb", checked := Try.checked }
namespace Rows
def none {H : Type} : Left H := { results := [], args := [] }

/-- 'backstitchkeep4.PagesShares': WHATEVER THE INPUT: true; the input reads as it did. -/
def pagesSharesSpec : ChangeSpec := { name := "pagesShares", fn := fun _ => fun
  | [d1, d2, d3, d4] => { results := [.lit (.bool true)], args := [d1, d2, d3, d4] }
  | _ => none }
def pagesSharesRow : OpenClaim := { program := "ytcnppcddpcpeoaa", sum := "58de74d1c0b15e61efbbc51f97c28662e7b0856f861268c55ee0c3ed1e530ceb", func := "backstitch/backstitchkeep4.PagesShares", spec := "pagesShares", unfollowed := true, recurses := true, apart := false }
def PagesSharesSaid : Prop := pagesSharesRow.holds Try.pinned (OpenSpec.ofChange pagesSharesSpec)

/-- ITS FALSE NEIGHBOUR: 'it returns false'. Refute it at one input. -/
def pagesSharesWrong : ChangeSpec := { name := "pagesShares", fn := fun _ => fun
  | [d1, d2, d3, d4] => { results := [.lit (.bool false)], args := [d1, d2, d3, d4] }
  | _ => none }
def PagesSharesWrongFalsely : Prop := pagesSharesRow.holds Try.pinned (OpenSpec.ofChange pagesSharesWrong)

/-- 'backstitchkeep4.PagesStay': WHATEVER THE INPUT: true; the input reads as it did. -/
def pagesStaySpec : ChangeSpec := { name := "pagesStay", fn := fun _ => fun
  | [d1, d2, d3, d4, d5, d6] => { results := [.lit (.bool true)], args := [d1, d2, d3, d4, d5, d6] }
  | _ => none }
def pagesStayRow : OpenClaim := { program := "ytcnppcddpcpeoaa", sum := "58de74d1c0b15e61efbbc51f97c28662e7b0856f861268c55ee0c3ed1e530ceb", func := "backstitch/backstitchkeep4.PagesStay", spec := "pagesStay", unfollowed := true, recurses := true, apart := false }
def PagesStaySaid : Prop := pagesStayRow.holds Try.pinned (OpenSpec.ofChange pagesStaySpec)

/-- ITS FALSE NEIGHBOUR: 'it returns false'. Refute it at one input. -/
def pagesStayWrong : ChangeSpec := { name := "pagesStay", fn := fun _ => fun
  | [d1, d2, d3, d4, d5, d6] => { results := [.lit (.bool false)], args := [d1, d2, d3, d4, d5, d6] }
  | _ => none }
def PagesStayWrongFalsely : Prop := pagesStayRow.holds Try.pinned (OpenSpec.ofChange pagesStayWrong)

/-- 'backstitchkeep4.PagesBack': WHATEVER THE INPUT: true; the input reads as it did. -/
def pagesBackSpec : ChangeSpec := { name := "pagesBack", fn := fun _ => fun
  | [d1, d2, d3, d4] => { results := [.lit (.bool true)], args := [d1, d2, d3, d4] }
  | _ => none }
def pagesBackRow : OpenClaim := { program := "ytcnppcddpcpeoaa", sum := "58de74d1c0b15e61efbbc51f97c28662e7b0856f861268c55ee0c3ed1e530ceb", func := "backstitch/backstitchkeep4.PagesBack", spec := "pagesBack", unfollowed := true, recurses := true, apart := false }
def PagesBackSaid : Prop := pagesBackRow.holds Try.pinned (OpenSpec.ofChange pagesBackSpec)

/-- ITS FALSE NEIGHBOUR: 'it returns false'. Refute it at one input. -/
def pagesBackWrong : ChangeSpec := { name := "pagesBack", fn := fun _ => fun
  | [d1, d2, d3, d4] => { results := [.lit (.bool false)], args := [d1, d2, d3, d4] }
  | _ => none }
def PagesBackWrongFalsely : Prop := pagesBackRow.holds Try.pinned (OpenSpec.ofChange pagesBackWrong)

/- THE SECOND FORM. 'bulk': how many values and letters a reading holds, each counted each time it is reached (what is shared counts as often as it is met; a slice's spare places count too). A statement '..UptoSaid' is the law's where the arguments, and the package variables that the reading takes, are together of bulk at most 1048576: NARROWER than '..Said'. Prove '..Said' where nothing that the law and all that it calls make is longer than what came in: it says more and counts as full. Else prove '..UptoSaid'. A law counts once. -/
mutual
def uptoBulk {H : Type} : DataW H → Nat
  | .lit (.string bytes) => bytes.length + 1
  | .lit _ => 1
  | .nil => 1
  | .ptr d => uptoBulk d + 1
  | .slice elems spare => uptoBulkAll elems + uptoBulkAll spare + 1
  | .agg parts => uptoBulkAll parts + 1
  | .iface _ d => uptoBulk d + 1
  | .map entries => uptoBulkEntries entries + 1
  | .held _ => 1
def uptoBulkAll {H : Type} : List (DataW H) → Nat
  | [] => 0
  | d :: r => uptoBulk d + uptoBulkAll r
def uptoBulkEntries {H : Type} : List (Lit × DataW H) → Nat
  | [] => 0
  | x :: r => uptoBulkEntry x + uptoBulkEntries r
def uptoBulkEntry {H : Type} : Lit × DataW H → Nat
  | (.string bytes, d) => bytes.length + uptoBulk d + 1
  | (_, d) => uptoBulk d + 1
 end
def uptoSmall : (H : Type) → List (DataW H) → Bool := fun _ ds => decide (uptoBulkAll ds ≤ 1048576)
def OpenSpec.upto (s : _root_.Go.ChangeSpec) : _root_.Go.OpenSpec := { _root_.Go.OpenSpec.ofChange s with cond := some uptoSmall }

/-- 'backstitchkeep4.PagesShares', WHERE WHAT IT READS IS OF BULK AT MOST 1048576: true; the input reads as it did. -/
def pagesSharesUptoRow : OpenClaim := { program := "ytcnppcddpcpeoaa", sum := "58de74d1c0b15e61efbbc51f97c28662e7b0856f861268c55ee0c3ed1e530ceb", func := "backstitch/backstitchkeep4.PagesShares", spec := "pagesShares", unfollowed := true, recurses := true, apart := false, narrowed := true }
def PagesSharesUptoSaid : Prop := pagesSharesUptoRow.holds Try.pinned (OpenSpec.upto pagesSharesSpec)

/-- 'backstitchkeep4.PagesStay', WHERE WHAT IT READS IS OF BULK AT MOST 1048576: true; the input reads as it did. -/
def pagesStayUptoRow : OpenClaim := { program := "ytcnppcddpcpeoaa", sum := "58de74d1c0b15e61efbbc51f97c28662e7b0856f861268c55ee0c3ed1e530ceb", func := "backstitch/backstitchkeep4.PagesStay", spec := "pagesStay", unfollowed := true, recurses := true, apart := false, narrowed := true }
def PagesStayUptoSaid : Prop := pagesStayUptoRow.holds Try.pinned (OpenSpec.upto pagesStaySpec)

/-- 'backstitchkeep4.PagesBack', WHERE WHAT IT READS IS OF BULK AT MOST 1048576: true; the input reads as it did. -/
def pagesBackUptoRow : OpenClaim := { program := "ytcnppcddpcpeoaa", sum := "58de74d1c0b15e61efbbc51f97c28662e7b0856f861268c55ee0c3ed1e530ceb", func := "backstitch/backstitchkeep4.PagesBack", spec := "pagesBack", unfollowed := true, recurses := true, apart := false, narrowed := true }
def PagesBackUptoSaid : Prop := pagesBackUptoRow.holds Try.pinned (OpenSpec.upto pagesBackSpec)

end Rows
end Go.Proofs.Ytcnppcddpcpeoaa
