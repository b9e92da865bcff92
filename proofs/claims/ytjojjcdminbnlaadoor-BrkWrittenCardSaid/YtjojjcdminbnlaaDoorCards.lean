/-
  DERIVED. GIVEN WITH THE SEED: THE CARDS: each row of YtjojjcdminbnlaaDoorRows.lean that lists a variable, with what it lists TIED to the program's text (the seventh form; the later family's looks); each row that meets fmt, with fmt's text TOLD by the authors' own Lean function (tested against real Go, not proved from fmt's source: count such statements apart). THE CARD IS WHAT COUNTS. Prove the row's statement (the work); the ties are given (YtjojjcdminbnlaaDoorTie.lean); close each card by the builder's one call (the guide's Derived/Test/ToyasCard.lean, 'card_holds'). Laid BY PROGRAM, IN A SANDBOX (cutbox-door.mjs). By AI agents, Wed Nov 11 2026. No macro, syntax, notation, axiom, sorry.
-/
import Derived.Test.YtjojjcdminbnlaaDoorRows
import GoSem.ClaimSeven
namespace Go.Proofs.YtjojjcdminbnlaaDoor
namespace Rows

/-- THE TIED CARD OF 'backstitchkeep4.BrkWritten'. -/
def brkWrittenCard : Claim7 := { stood := { row := brkWrittenRow, standIns := [], harness := (true, "42aaed316a5da5980b2f00242bbd1288427efedfc34dadadf4bc05af633b0574"), looks := false }, kinds := [], alts := [], laidByText := true, laidKinds := [.data, .data, .data, .data, .pinned], laidTests := true, laidLooks := .later }
def BrkWrittenCardSaid : Prop := Claim7.holds Tryd.pinned (.plain (OpenSpec.ofChange brkWrittenSpec)) brkWrittenCard

/-- THE TIED CARD OF 'backstitchkeep4.BrkWays'. -/
def brkWaysCard : Claim7 := { stood := { row := brkWaysRow, standIns := [], harness := (true, "42aaed316a5da5980b2f00242bbd1288427efedfc34dadadf4bc05af633b0574"), looks := false }, kinds := [], alts := [], laidByText := true, laidKinds := [.data, .data, .data, .data, .pinned], laidTests := true, laidLooks := .later }
def BrkWaysCardSaid : Prop := Claim7.holds Tryd.pinned (.plain (OpenSpec.ofChange brkWaysSpec)) brkWaysCard

/-- THE TIED CARD OF 'backstitchkeep4.BrkLogic'. -/
def brkLogicCard : Claim7 := { stood := { row := brkLogicRow, standIns := [], harness := (true, "42aaed316a5da5980b2f00242bbd1288427efedfc34dadadf4bc05af633b0574"), looks := false }, kinds := [], alts := [], laidByText := true, laidKinds := [.data, .data, .data, .data, .pinned], laidTests := true, laidLooks := .later }
def BrkLogicCardSaid : Prop := Claim7.holds Tryd.pinned (.plain (OpenSpec.ofChange brkLogicSpec)) brkLogicCard

/-- THE SECOND FORM's CARD OF 'backstitchkeep4.BrkWritten'. -/
def brkWrittenUptoCard : Claim7 := { stood := { row := brkWrittenUptoRow, standIns := [], harness := (true, "42aaed316a5da5980b2f00242bbd1288427efedfc34dadadf4bc05af633b0574"), looks := false }, kinds := [], alts := [], laidByText := true, laidKinds := [.data, .data, .data, .data, .pinned], laidTests := true, laidLooks := .later }
def BrkWrittenUptoCardSaid : Prop := Claim7.holds Tryd.pinned (.plain (OpenSpec.upto brkWrittenSpec)) brkWrittenUptoCard

/-- THE SECOND FORM's CARD OF 'backstitchkeep4.BrkWays'. -/
def brkWaysUptoCard : Claim7 := { stood := { row := brkWaysUptoRow, standIns := [], harness := (true, "42aaed316a5da5980b2f00242bbd1288427efedfc34dadadf4bc05af633b0574"), looks := false }, kinds := [], alts := [], laidByText := true, laidKinds := [.data, .data, .data, .data, .pinned], laidTests := true, laidLooks := .later }
def BrkWaysUptoCardSaid : Prop := Claim7.holds Tryd.pinned (.plain (OpenSpec.upto brkWaysSpec)) brkWaysUptoCard

/-- THE SECOND FORM's CARD OF 'backstitchkeep4.BrkLogic'. -/
def brkLogicUptoCard : Claim7 := { stood := { row := brkLogicUptoRow, standIns := [], harness := (true, "42aaed316a5da5980b2f00242bbd1288427efedfc34dadadf4bc05af633b0574"), looks := false }, kinds := [], alts := [], laidByText := true, laidKinds := [.data, .data, .data, .data, .pinned], laidTests := true, laidLooks := .later }
def BrkLogicUptoCardSaid : Prop := Claim7.holds Tryd.pinned (.plain (OpenSpec.upto brkLogicSpec)) brkLogicUptoCard
end Rows
end Go.Proofs.YtjojjcdminbnlaaDoor
