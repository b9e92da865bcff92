/-
  No cell of these rows narrows 'for every input' (looked for: loops, veiled, ifaces, maps, wideKeys, modest, calm, conditions, laid).
  DERIVED. THE GIVEN ROWS OF THIS SEAT. 3 by the template 'for every input the law returns true; each argument reads behind the call as it read before'; 0 by the template 'total and deterministic' (their statements: YtiaaoajnecppnaaTotals.lean).
  GIVEN WITH THE SEED: the statements are not yours to turn. If you find one false, say at which input.
  Laid BY PROGRAM, IN A SANDBOX (cutbox-rows.mjs): the forced cells as the released guide's own fill.sh prints them over the translation a13d58ede7e5db70… (all of the seat's roots in one cut). By AI agents, Wed Nov 11 2026. No macro, syntax, notation, axiom, sorry.
-/
import Derived.Test.YtiaaoajnecppnaaChecked
import GoSem.Claim
import GoSem.ClaimJoined
import GoSem.ClaimMapViews
import Derived.JoinedTies
import Derived.KernelRfl
namespace Go.Proofs.Ytiaaoajnecppnaa
/- THE CELL 'sum', in the pinned program and in every row, IS THE sha256 OF THE DUMP (.gsa) THAT YtiaaoajnecppnaaProg.lean LOADS. Nothing in Lean hashes anything: it is a label: what it is worth is what the hold of that sum in a sandbox is worth. -/
noncomputable def Try.pinned : Pinned := { name := "ytiaaoajnecppnaa", sum := "a13d58ede7e5db704eda6003b2c6dd26fd6886a0aa8b7f0c772267ba589ded5f", checked := Try.checked }
namespace Rows
def none {H : Type} : Left H := { results := [], args := [] }

/-- 'backstitchkeep4.RaceProved': WHATEVER THE INPUT: true; the input reads as it did. -/
def raceProvedSpec : ChangeSpec := { name := "raceProved", fn := fun _ => fun
  | [d1, d2, d3, d4, d5] => { results := [.lit (.bool true)], args := [d1, d2, d3, d4, d5] }
  | _ => none }
def raceProvedRow : OpenClaim := { program := "ytiaaoajnecppnaa", sum := "a13d58ede7e5db704eda6003b2c6dd26fd6886a0aa8b7f0c772267ba589ded5f", func := "backstitch/backstitchkeep4.RaceProved", spec := "raceProved", unfollowed := true, recurses := true, apart := false }
def RaceProvedSaid : Prop := raceProvedRow.holds Try.pinned (OpenSpec.ofChange raceProvedSpec)

/-- ITS FALSE NEIGHBOUR: 'it returns false'. Refute it at one input. -/
def raceProvedWrong : ChangeSpec := { name := "raceProved", fn := fun _ => fun
  | [d1, d2, d3, d4, d5] => { results := [.lit (.bool false)], args := [d1, d2, d3, d4, d5] }
  | _ => none }
def RaceProvedWrongFalsely : Prop := raceProvedRow.holds Try.pinned (OpenSpec.ofChange raceProvedWrong)

/-- 'backstitchkeep4.RaceSwaps': WHATEVER THE INPUT: true; the input reads as it did. -/
def raceSwapsSpec : ChangeSpec := { name := "raceSwaps", fn := fun _ => fun
  | [d1, d2, d3] => { results := [.lit (.bool true)], args := [d1, d2, d3] }
  | _ => none }
def raceSwapsRow : OpenClaim := { program := "ytiaaoajnecppnaa", sum := "a13d58ede7e5db704eda6003b2c6dd26fd6886a0aa8b7f0c772267ba589ded5f", func := "backstitch/backstitchkeep4.RaceSwaps", spec := "raceSwaps", unfollowed := true, recurses := true, apart := false }
def RaceSwapsSaid : Prop := raceSwapsRow.holds Try.pinned (OpenSpec.ofChange raceSwapsSpec)

/-- ITS FALSE NEIGHBOUR: 'it returns false'. Refute it at one input. -/
def raceSwapsWrong : ChangeSpec := { name := "raceSwaps", fn := fun _ => fun
  | [d1, d2, d3] => { results := [.lit (.bool false)], args := [d1, d2, d3] }
  | _ => none }
def RaceSwapsWrongFalsely : Prop := raceSwapsRow.holds Try.pinned (OpenSpec.ofChange raceSwapsWrong)

/-- 'backstitchkeep4.RaceLocked': WHATEVER THE INPUT: true; the input reads as it did. -/
def raceLockedSpec : ChangeSpec := { name := "raceLocked", fn := fun _ => fun
  | [d1, d2, d3] => { results := [.lit (.bool true)], args := [d1, d2, d3] }
  | _ => none }
def raceLockedRow : OpenClaim := { program := "ytiaaoajnecppnaa", sum := "a13d58ede7e5db704eda6003b2c6dd26fd6886a0aa8b7f0c772267ba589ded5f", func := "backstitch/backstitchkeep4.RaceLocked", spec := "raceLocked", unfollowed := true, recurses := true, apart := false }
def RaceLockedSaid : Prop := raceLockedRow.holds Try.pinned (OpenSpec.ofChange raceLockedSpec)

/-- ITS FALSE NEIGHBOUR: 'it returns false'. Refute it at one input. -/
def raceLockedWrong : ChangeSpec := { name := "raceLocked", fn := fun _ => fun
  | [d1, d2, d3] => { results := [.lit (.bool false)], args := [d1, d2, d3] }
  | _ => none }
def RaceLockedWrongFalsely : Prop := raceLockedRow.holds Try.pinned (OpenSpec.ofChange raceLockedWrong)

/- THE SECOND FORM. 'bulk': how many values and letters a reading holds, each counted each time it is reached (what is shared counts as often as it is met; a slice's spare places count too). A statement '..UptoSaid' is the law's where the arguments, and the package variables that the reading takes, are together of bulk at most 1048576: NARROWER than '..Said'. Prove '..Said' where nothing that the law and all that it calls make is longer than what came in: it says more and counts as full. Else prove '..UptoSaid'. A law counts once. -/
mutual
def uptoBulk {H : Type} : DataW H → Nat
  | .lit (.string bytes) => bytes.length + 1
  | .lit _ => 1
  | .nil => 1
  | .ptr d => uptoBulk d + 1
  | .slice elems spare => uptoBulkAll elems + uptoBulkAll spare + 1
  | .agg parts => uptoBulkAll parts + 1
  | .iface _ d => uptoBulk d + 1
  | .map entries => uptoBulkEntries entries + 1
  | .held _ => 1
def uptoBulkAll {H : Type} : List (DataW H) → Nat
  | [] => 0
  | d :: r => uptoBulk d + uptoBulkAll r
def uptoBulkEntries {H : Type} : List (Lit × DataW H) → Nat
  | [] => 0
  | x :: r => uptoBulkEntry x + uptoBulkEntries r
def uptoBulkEntry {H : Type} : Lit × DataW H → Nat
  | (.string bytes, d) => bytes.length + uptoBulk d + 1
  | (_, d) => uptoBulk d + 1
 end
def uptoSmall : (H : Type) → List (DataW H) → Bool := fun _ ds => decide (uptoBulkAll ds ≤ 1048576)
def OpenSpec.upto (s : _root_.Go.ChangeSpec) : _root_.Go.OpenSpec := { _root_.Go.OpenSpec.ofChange s with cond := some uptoSmall }

/-- 'backstitchkeep4.RaceProved', WHERE WHAT IT READS IS OF BULK AT MOST 1048576: true; the input reads as it did. -/
def raceProvedUptoRow : OpenClaim := { program := "ytiaaoajnecppnaa", sum := "a13d58ede7e5db704eda6003b2c6dd26fd6886a0aa8b7f0c772267ba589ded5f", func := "backstitch/backstitchkeep4.RaceProved", spec := "raceProved", unfollowed := true, recurses := true, apart := false, narrowed := true }
def RaceProvedUptoSaid : Prop := raceProvedUptoRow.holds Try.pinned (OpenSpec.upto raceProvedSpec)

/-- 'backstitchkeep4.RaceSwaps', WHERE WHAT IT READS IS OF BULK AT MOST 1048576: true; the input reads as it did. -/
def raceSwapsUptoRow : OpenClaim := { program := "ytiaaoajnecppnaa", sum := "a13d58ede7e5db704eda6003b2c6dd26fd6886a0aa8b7f0c772267ba589ded5f", func := "backstitch/backstitchkeep4.RaceSwaps", spec := "raceSwaps", unfollowed := true, recurses := true, apart := false, narrowed := true }
def RaceSwapsUptoSaid : Prop := raceSwapsUptoRow.holds Try.pinned (OpenSpec.upto raceSwapsSpec)

/-- 'backstitchkeep4.RaceLocked', WHERE WHAT IT READS IS OF BULK AT MOST 1048576: true; the input reads as it did. -/
def raceLockedUptoRow : OpenClaim := { program := "ytiaaoajnecppnaa", sum := "a13d58ede7e5db704eda6003b2c6dd26fd6886a0aa8b7f0c772267ba589ded5f", func := "backstitch/backstitchkeep4.RaceLocked", spec := "raceLocked", unfollowed := true, recurses := true, apart := false, narrowed := true }
def RaceLockedUptoSaid : Prop := raceLockedUptoRow.holds Try.pinned (OpenSpec.upto raceLockedSpec)

end Rows
end Go.Proofs.Ytiaaoajnecppnaa
