/-
  No cell of these rows narrows 'for every input' (looked for: loops, veiled, ifaces, maps, wideKeys, modest, calm, conditions, laid).
  DERIVED. THE GIVEN ROWS OF THIS SEAT. 3 by the template 'for every input the law returns true; each argument reads behind the call as it read before'; 0 by the template 'total and deterministic' (their statements: YtngippkfmdcdoaaTotals.lean).
  GIVEN WITH THE SEED: the statements are not yours to turn. If you find one false, say at which input.
  Laid BY PROGRAM, IN A SANDBOX (cutbox-rows.mjs): the forced cells as the released guide's own fill.sh prints them over the translation 0d52308bfdbe8f01… (all of the seat's roots in one cut). By AI agents, Wed Nov 11 2026. No macro, syntax, notation, axiom, sorry.
-/
import Derived.Test.YtngippkfmdcdoaaChecked
import GoSem.Claim
import GoSem.ClaimJoined
import GoSem.ClaimMapViews
import Derived.JoinedTies
import Derived.KernelRfl
namespace Go.Proofs.Ytngippkfmdcdoaa
/- THE CELL 'sum', in the pinned program and in every row, IS THE sha256 OF THE DUMP (.gsa) THAT YtngippkfmdcdoaaProg.lean LOADS. Nothing in Lean hashes anything: it is a label: what it is worth is what the hold of that sum in a sandbox is worth. -/
noncomputable def Try.pinned : Pinned := { name := "ytngippkfmdcdoaa", sum := "0d52308bfdbe8f014a114f3bec9ead8d2c2b8d8f8ef31ec2fea2a6e7cf0ecf82", checked := Try.checked }
namespace Rows
def none {H : Type} : Left H := { results := [], args := [] }

/-- 'backstitchkeep4.WatchWrites': WHATEVER THE INPUT: true; the input reads as it did. -/
def watchWritesSpec : ChangeSpec := { name := "watchWrites", fn := fun _ => fun
  | [d1, d2, d3, d4] => { results := [.lit (.bool true)], args := [d1, d2, d3, d4] }
  | _ => none }
def watchWritesRow : OpenClaim := { program := "ytngippkfmdcdoaa", sum := "0d52308bfdbe8f014a114f3bec9ead8d2c2b8d8f8ef31ec2fea2a6e7cf0ecf82", func := "backstitch/backstitchkeep4.WatchWrites", spec := "watchWrites", unfollowed := true, recurses := true, plainKeys := false, apart := false }
def WatchWritesSaid : Prop := watchWritesRow.holds Try.pinned (OpenSpec.ofChange watchWritesSpec)

/-- ITS FALSE NEIGHBOUR: 'it returns false'. Refute it at one input. -/
def watchWritesWrong : ChangeSpec := { name := "watchWrites", fn := fun _ => fun
  | [d1, d2, d3, d4] => { results := [.lit (.bool false)], args := [d1, d2, d3, d4] }
  | _ => none }
def WatchWritesWrongFalsely : Prop := watchWritesRow.holds Try.pinned (OpenSpec.ofChange watchWritesWrong)

/-- 'backstitchkeep4.WatchCut': WHATEVER THE INPUT: true; the input reads as it did. -/
def watchCutSpec : ChangeSpec := { name := "watchCut", fn := fun _ => fun
  | [d1, d2] => { results := [.lit (.bool true)], args := [d1, d2] }
  | _ => none }
def watchCutRow : OpenClaim := { program := "ytngippkfmdcdoaa", sum := "0d52308bfdbe8f014a114f3bec9ead8d2c2b8d8f8ef31ec2fea2a6e7cf0ecf82", func := "backstitch/backstitchkeep4.WatchCut", spec := "watchCut", unfollowed := true, recurses := true, plainKeys := false, apart := false }
def WatchCutSaid : Prop := watchCutRow.holds Try.pinned (OpenSpec.ofChange watchCutSpec)

/-- ITS FALSE NEIGHBOUR: 'it returns false'. Refute it at one input. -/
def watchCutWrong : ChangeSpec := { name := "watchCut", fn := fun _ => fun
  | [d1, d2] => { results := [.lit (.bool false)], args := [d1, d2] }
  | _ => none }
def WatchCutWrongFalsely : Prop := watchCutRow.holds Try.pinned (OpenSpec.ofChange watchCutWrong)

/-- 'backstitchkeep4.WatchBack': WHATEVER THE INPUT: true; the input reads as it did. -/
def watchBackSpec : ChangeSpec := { name := "watchBack", fn := fun _ => fun
  | [d1, d2, d3] => { results := [.lit (.bool true)], args := [d1, d2, d3] }
  | _ => none }
def watchBackRow : OpenClaim := { program := "ytngippkfmdcdoaa", sum := "0d52308bfdbe8f014a114f3bec9ead8d2c2b8d8f8ef31ec2fea2a6e7cf0ecf82", func := "backstitch/backstitchkeep4.WatchBack", spec := "watchBack", unfollowed := true, recurses := true, plainKeys := false, apart := false }
def WatchBackSaid : Prop := watchBackRow.holds Try.pinned (OpenSpec.ofChange watchBackSpec)

/-- ITS FALSE NEIGHBOUR: 'it returns false'. Refute it at one input. -/
def watchBackWrong : ChangeSpec := { name := "watchBack", fn := fun _ => fun
  | [d1, d2, d3] => { results := [.lit (.bool false)], args := [d1, d2, d3] }
  | _ => none }
def WatchBackWrongFalsely : Prop := watchBackRow.holds Try.pinned (OpenSpec.ofChange watchBackWrong)

/- THE SECOND FORM. 'bulk': how many values and letters a reading holds, each counted each time it is reached (what is shared counts as often as it is met; a slice's spare places count too). A statement '..UptoSaid' is the law's where the arguments, and the package variables that the reading takes, are together of bulk at most 1048576: NARROWER than '..Said'. Prove '..Said' where nothing that the law and all that it calls make is longer than what came in: it says more and counts as full. Else prove '..UptoSaid'. A law counts once. -/
mutual
def uptoBulk {H : Type} : DataW H → Nat
  | .lit (.string bytes) => bytes.length + 1
  | .lit _ => 1
  | .nil => 1
  | .ptr d => uptoBulk d + 1
  | .slice elems spare => uptoBulkAll elems + uptoBulkAll spare + 1
  | .agg parts => uptoBulkAll parts + 1
  | .iface _ d => uptoBulk d + 1
  | .map entries => uptoBulkEntries entries + 1
  | .held _ => 1
def uptoBulkAll {H : Type} : List (DataW H) → Nat
  | [] => 0
  | d :: r => uptoBulk d + uptoBulkAll r
def uptoBulkEntries {H : Type} : List (Lit × DataW H) → Nat
  | [] => 0
  | x :: r => uptoBulkEntry x + uptoBulkEntries r
def uptoBulkEntry {H : Type} : Lit × DataW H → Nat
  | (.string bytes, d) => bytes.length + uptoBulk d + 1
  | (_, d) => uptoBulk d + 1
 end
def uptoSmall : (H : Type) → List (DataW H) → Bool := fun _ ds => decide (uptoBulkAll ds ≤ 1048576)
def OpenSpec.upto (s : _root_.Go.ChangeSpec) : _root_.Go.OpenSpec := { _root_.Go.OpenSpec.ofChange s with cond := some uptoSmall }

/-- 'backstitchkeep4.WatchWrites', WHERE WHAT IT READS IS OF BULK AT MOST 1048576: true; the input reads as it did. -/
def watchWritesUptoRow : OpenClaim := { program := "ytngippkfmdcdoaa", sum := "0d52308bfdbe8f014a114f3bec9ead8d2c2b8d8f8ef31ec2fea2a6e7cf0ecf82", func := "backstitch/backstitchkeep4.WatchWrites", spec := "watchWrites", unfollowed := true, recurses := true, plainKeys := false, apart := false, narrowed := true }
def WatchWritesUptoSaid : Prop := watchWritesUptoRow.holds Try.pinned (OpenSpec.upto watchWritesSpec)

/-- 'backstitchkeep4.WatchCut', WHERE WHAT IT READS IS OF BULK AT MOST 1048576: true; the input reads as it did. -/
def watchCutUptoRow : OpenClaim := { program := "ytngippkfmdcdoaa", sum := "0d52308bfdbe8f014a114f3bec9ead8d2c2b8d8f8ef31ec2fea2a6e7cf0ecf82", func := "backstitch/backstitchkeep4.WatchCut", spec := "watchCut", unfollowed := true, recurses := true, plainKeys := false, apart := false, narrowed := true }
def WatchCutUptoSaid : Prop := watchCutUptoRow.holds Try.pinned (OpenSpec.upto watchCutSpec)

/-- 'backstitchkeep4.WatchBack', WHERE WHAT IT READS IS OF BULK AT MOST 1048576: true; the input reads as it did. -/
def watchBackUptoRow : OpenClaim := { program := "ytngippkfmdcdoaa", sum := "0d52308bfdbe8f014a114f3bec9ead8d2c2b8d8f8ef31ec2fea2a6e7cf0ecf82", func := "backstitch/backstitchkeep4.WatchBack", spec := "watchBack", unfollowed := true, recurses := true, plainKeys := false, apart := false, narrowed := true }
def WatchBackUptoSaid : Prop := watchBackUptoRow.holds Try.pinned (OpenSpec.upto watchBackSpec)

end Rows
end Go.Proofs.Ytngippkfmdcdoaa
