/-
  DERIVED. GIVEN WITH THE SEED: THE CARDS: each row of YtddmcmkhjkleoaaGreatDoorRows.lean that lists a variable, with what it lists TIED to the program's text (the seventh form; the later family's looks); each row that meets fmt, with fmt's text TOLD by the authors' own Lean function (tested against real Go, not proved from fmt's source: count such statements apart). THE CARD IS WHAT COUNTS. Prove the row's statement (the work); the ties are given (YtddmcmkhjkleoaaGreatDoorTie.lean); close each card by the builder's one call (the guide's Derived/Test/ToyasCard.lean, 'card_holds'). Laid BY PROGRAM, IN A SANDBOX (cutbox-door.mjs). By AI agents, Wed Nov 11 2026. No macro, syntax, notation, axiom, sorry.
-/
import Derived.Test.YtddmcmkhjkleoaaGreatDoorRows
import GoSem.ClaimSeven
namespace Go.Proofs.YtddmcmkhjkleoaaGreatDoor
namespace Rows

/-- THE TIED CARD OF 'backstitchkeep4.ListingBack'. -/
def listingBackCard : Claim7 := { stood := { row := listingBackRow, standIns := [], harness := (true, "941b7883ab71889fd925144e6ebe398d0bb46f0d833b2cdf6c96e22a2e983c26"), looks := true }, kinds := [], alts := [], laidByText := true, laidKinds := [.data, .data, .data, .data, .sentinel, .sentinel, .listed, .data, .pinned], laidTests := true, laidLooks := .later }
def ListingBackCardSaid : Prop := Claim7.holds Tryz.pinned (.plain (OpenSpec.ofChange listingBackSpec)) listingBackCard

/-- THE TIED CARD OF 'backstitchkeep4.ListingRemarks'. -/
def listingRemarksCard : Claim7 := { stood := { row := listingRemarksRow, standIns := [], harness := (true, "941b7883ab71889fd925144e6ebe398d0bb46f0d833b2cdf6c96e22a2e983c26"), looks := true }, kinds := [], alts := [], laidByText := true, laidKinds := [.data, .data, .data, .data, .sentinel, .sentinel, .listed, .data, .pinned], laidTests := true, laidLooks := .later }
def ListingRemarksCardSaid : Prop := Claim7.holds Tryz.pinned (.plain (OpenSpec.ofChange listingRemarksSpec)) listingRemarksCard

/-- THE TIED CARD OF 'backstitchkeep4.ListingCut'. -/
def listingCutCard : Claim7 := { stood := { row := listingCutRow, standIns := [], harness := (true, "941b7883ab71889fd925144e6ebe398d0bb46f0d833b2cdf6c96e22a2e983c26"), looks := true }, kinds := [], alts := [], laidByText := true, laidKinds := [.data, .data, .data, .data, .sentinel, .sentinel, .listed, .data, .pinned], laidTests := true, laidLooks := .later }
def ListingCutCardSaid : Prop := Claim7.holds Tryz.pinned (.plain (OpenSpec.ofChange listingCutSpec)) listingCutCard

/-- THE SECOND FORM's CARD OF 'backstitchkeep4.ListingBack'. -/
def listingBackUptoCard : Claim7 := { stood := { row := listingBackUptoRow, standIns := [], harness := (true, "941b7883ab71889fd925144e6ebe398d0bb46f0d833b2cdf6c96e22a2e983c26"), looks := true }, kinds := [], alts := [], laidByText := true, laidKinds := [.data, .data, .data, .data, .sentinel, .sentinel, .listed, .data, .pinned], laidTests := true, laidLooks := .later }
def ListingBackUptoCardSaid : Prop := Claim7.holds Tryz.pinned (.plain (OpenSpec.upto listingBackSpec)) listingBackUptoCard

/-- THE SECOND FORM's CARD OF 'backstitchkeep4.ListingRemarks'. -/
def listingRemarksUptoCard : Claim7 := { stood := { row := listingRemarksUptoRow, standIns := [], harness := (true, "941b7883ab71889fd925144e6ebe398d0bb46f0d833b2cdf6c96e22a2e983c26"), looks := true }, kinds := [], alts := [], laidByText := true, laidKinds := [.data, .data, .data, .data, .sentinel, .sentinel, .listed, .data, .pinned], laidTests := true, laidLooks := .later }
def ListingRemarksUptoCardSaid : Prop := Claim7.holds Tryz.pinned (.plain (OpenSpec.upto listingRemarksSpec)) listingRemarksUptoCard

/-- THE SECOND FORM's CARD OF 'backstitchkeep4.ListingCut'. -/
def listingCutUptoCard : Claim7 := { stood := { row := listingCutUptoRow, standIns := [], harness := (true, "941b7883ab71889fd925144e6ebe398d0bb46f0d833b2cdf6c96e22a2e983c26"), looks := true }, kinds := [], alts := [], laidByText := true, laidKinds := [.data, .data, .data, .data, .sentinel, .sentinel, .listed, .data, .pinned], laidTests := true, laidLooks := .later }
def ListingCutUptoCardSaid : Prop := Claim7.holds Tryz.pinned (.plain (OpenSpec.upto listingCutSpec)) listingCutUptoCard
end Rows
end Go.Proofs.YtddmcmkhjkleoaaGreatDoor
