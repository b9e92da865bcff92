/-
  DERIVED. GIVEN WITH THE SEED: THE CARDS: each row of YtngklbnodknadaaGreatDoorRows.lean that lists a variable, with what it lists TIED to the program's text (the seventh form; the later family's looks); each row that meets fmt, with fmt's text TOLD by the authors' own Lean function (tested against real Go, not proved from fmt's source: count such statements apart). THE CARD IS WHAT COUNTS. Prove the row's statement (the work); the ties are given (YtngklbnodknadaaGreatDoorTie.lean); close each card by the builder's one call (the guide's Derived/Test/ToyasCard.lean, 'card_holds'). Laid BY PROGRAM, IN A SANDBOX (cutbox-door.mjs). By AI agents, Wed Nov 11 2026. No macro, syntax, notation, axiom, sorry.
-/
import Derived.Test.YtngklbnodknadaaGreatDoorRows
import GoSem.ClaimSeven
namespace Go.Proofs.YtngklbnodknadaaGreatDoor
namespace Rows

/-- THE TIED CARD OF 'backstitchkeep4.LexisWhole'. -/
def lexisWholeCard : Claim7 := { stood := { row := lexisWholeRow, standIns := [], harness := (true, "e4e2165d4bfd491eef2bb5ceaa2b5983c845064464632586a5212a2335e53b25"), looks := true }, kinds := [], alts := [], laidByText := true, laidKinds := [.data, .data, .widerDeep, .widerDeep, .data, .data, .data, .data, .data, .sentinel, .sentinel, .listed, .data, .pinned, .pinned], laidTests := true, laidLooks := .later }
def LexisWholeCardSaid : Prop := Claim7.holds Tryz.pinned (.plain (OpenSpec.ofChange lexisWholeSpec)) lexisWholeCard

/-- THE TIED CARD OF 'backstitchkeep4.LexisAlone'. -/
def lexisAloneCard : Claim7 := { stood := { row := lexisAloneRow, standIns := [], harness := (true, "e4e2165d4bfd491eef2bb5ceaa2b5983c845064464632586a5212a2335e53b25"), looks := true }, kinds := [], alts := [], laidByText := true, laidKinds := [.data, .data, .widerDeep, .widerDeep, .data, .data, .data, .data, .data, .sentinel, .sentinel, .listed, .data, .pinned, .pinned], laidTests := true, laidLooks := .later }
def LexisAloneCardSaid : Prop := Claim7.holds Tryz.pinned (.plain (OpenSpec.ofChange lexisAloneSpec)) lexisAloneCard

/-- THE TIED CARD OF 'backstitchkeep4.LexisBoth'. -/
def lexisBothCard : Claim7 := { stood := { row := lexisBothRow, standIns := [], harness := (true, "e4e2165d4bfd491eef2bb5ceaa2b5983c845064464632586a5212a2335e53b25"), looks := true }, kinds := [], alts := [], laidByText := true, laidKinds := [.data, .data, .widerDeep, .widerDeep, .data, .data, .data, .data, .data, .sentinel, .sentinel, .listed, .data, .pinned, .pinned], laidTests := true, laidLooks := .later }
def LexisBothCardSaid : Prop := Claim7.holds Tryz.pinned (.plain (OpenSpec.ofChange lexisBothSpec)) lexisBothCard

/-- THE TIED CARD OF 'backstitchkeep4.LexisQuoted'. -/
def lexisQuotedCard : Claim7 := { stood := { row := lexisQuotedRow, standIns := [], harness := (true, "e4e2165d4bfd491eef2bb5ceaa2b5983c845064464632586a5212a2335e53b25"), looks := true }, kinds := [], alts := [], laidByText := true, laidKinds := [.data, .data, .widerDeep, .widerDeep, .data, .data, .data, .data, .data, .sentinel, .sentinel, .listed, .data, .pinned, .pinned], laidTests := true, laidLooks := .later }
def LexisQuotedCardSaid : Prop := Claim7.holds Tryz.pinned (.plain (OpenSpec.ofChange lexisQuotedSpec)) lexisQuotedCard

/-- THE SECOND FORM's CARD OF 'backstitchkeep4.LexisWhole'. -/
def lexisWholeUptoCard : Claim7 := { stood := { row := lexisWholeUptoRow, standIns := [], harness := (true, "e4e2165d4bfd491eef2bb5ceaa2b5983c845064464632586a5212a2335e53b25"), looks := true }, kinds := [], alts := [], laidByText := true, laidKinds := [.data, .data, .widerDeep, .widerDeep, .data, .data, .data, .data, .data, .sentinel, .sentinel, .listed, .data, .pinned, .pinned], laidTests := true, laidLooks := .later }
def LexisWholeUptoCardSaid : Prop := Claim7.holds Tryz.pinned (.plain (OpenSpec.upto lexisWholeSpec)) lexisWholeUptoCard

/-- THE SECOND FORM's CARD OF 'backstitchkeep4.LexisAlone'. -/
def lexisAloneUptoCard : Claim7 := { stood := { row := lexisAloneUptoRow, standIns := [], harness := (true, "e4e2165d4bfd491eef2bb5ceaa2b5983c845064464632586a5212a2335e53b25"), looks := true }, kinds := [], alts := [], laidByText := true, laidKinds := [.data, .data, .widerDeep, .widerDeep, .data, .data, .data, .data, .data, .sentinel, .sentinel, .listed, .data, .pinned, .pinned], laidTests := true, laidLooks := .later }
def LexisAloneUptoCardSaid : Prop := Claim7.holds Tryz.pinned (.plain (OpenSpec.upto lexisAloneSpec)) lexisAloneUptoCard

/-- THE SECOND FORM's CARD OF 'backstitchkeep4.LexisBoth'. -/
def lexisBothUptoCard : Claim7 := { stood := { row := lexisBothUptoRow, standIns := [], harness := (true, "e4e2165d4bfd491eef2bb5ceaa2b5983c845064464632586a5212a2335e53b25"), looks := true }, kinds := [], alts := [], laidByText := true, laidKinds := [.data, .data, .widerDeep, .widerDeep, .data, .data, .data, .data, .data, .sentinel, .sentinel, .listed, .data, .pinned, .pinned], laidTests := true, laidLooks := .later }
def LexisBothUptoCardSaid : Prop := Claim7.holds Tryz.pinned (.plain (OpenSpec.upto lexisBothSpec)) lexisBothUptoCard

/-- THE SECOND FORM's CARD OF 'backstitchkeep4.LexisQuoted'. -/
def lexisQuotedUptoCard : Claim7 := { stood := { row := lexisQuotedUptoRow, standIns := [], harness := (true, "e4e2165d4bfd491eef2bb5ceaa2b5983c845064464632586a5212a2335e53b25"), looks := true }, kinds := [], alts := [], laidByText := true, laidKinds := [.data, .data, .widerDeep, .widerDeep, .data, .data, .data, .data, .data, .sentinel, .sentinel, .listed, .data, .pinned, .pinned], laidTests := true, laidLooks := .later }
def LexisQuotedUptoCardSaid : Prop := Claim7.holds Tryz.pinned (.plain (OpenSpec.upto lexisQuotedSpec)) lexisQuotedUptoCard
end Rows
end Go.Proofs.YtngklbnodknadaaGreatDoor
