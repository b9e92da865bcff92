/-
  DERIVED. GIVEN WITH THE SEED: THE CARDS: each row of YtenlhfmchhljdaaDoorRows.lean that lists a variable, with what it lists TIED to the program's text (the seventh form; the later family's looks); each row that meets fmt, with fmt's text TOLD by the authors' own Lean function (tested against real Go, not proved from fmt's source: count such statements apart). THE CARD IS WHAT COUNTS. Prove the row's statement (the work); the ties are given (YtenlhfmchhljdaaDoorTie.lean); close each card by the builder's one call (the guide's Derived/Test/ToyasCard.lean, 'card_holds'). Laid BY PROGRAM, IN A SANDBOX (cutbox-door.mjs). By AI agents, Wed Nov 11 2026. No macro, syntax, notation, axiom, sorry.
-/
import Derived.Test.YtenlhfmchhljdaaDoorRows
import GoSem.ClaimSeven
namespace Go.Proofs.YtenlhfmchhljdaaDoor
namespace Rows

/-- THE TIED CARD OF 'backstitchkeep4.QueryPlain'. -/
def queryPlainCard : Claim7 := { stood := { row := queryPlainRow, standIns := [], harness := (true, "07166090070c4f5c870950ff3594c58fc0850e35d73387cce1cb5ffd1ca50f20"), looks := true }, kinds := [], alts := [], laidByText := true, laidKinds := [.data, .data, .data, .data, .sentinel, .sentinel, .listed, .data, .pinned], laidTests := true, laidLooks := .later }
def QueryPlainCardSaid : Prop := Claim7.holds Tryd.pinned (.plain (OpenSpec.ofChange queryPlainSpec)) queryPlainCard

/-- THE TIED CARD OF 'backstitchkeep4.QueryBoole'. -/
def queryBooleCard : Claim7 := { stood := { row := queryBooleRow, standIns := [], harness := (true, "07166090070c4f5c870950ff3594c58fc0850e35d73387cce1cb5ffd1ca50f20"), looks := true }, kinds := [], alts := [], laidByText := true, laidKinds := [.data, .data, .data, .data, .sentinel, .sentinel, .listed, .data, .pinned], laidTests := true, laidLooks := .later }
def QueryBooleCardSaid : Prop := Claim7.holds Tryd.pinned (.plain (OpenSpec.ofChange queryBooleSpec)) queryBooleCard

/-- THE TIED CARD OF 'backstitchkeep4.QueryEnds'. -/
def queryEndsCard : Claim7 := { stood := { row := queryEndsRow, standIns := [], harness := (true, "07166090070c4f5c870950ff3594c58fc0850e35d73387cce1cb5ffd1ca50f20"), looks := true }, kinds := [], alts := [], laidByText := true, laidKinds := [.data, .data, .data, .data, .sentinel, .sentinel, .listed, .data, .pinned], laidTests := true, laidLooks := .later }
def QueryEndsCardSaid : Prop := Claim7.holds Tryd.pinned (.plain (OpenSpec.ofChange queryEndsSpec)) queryEndsCard

/-- THE SECOND FORM's CARD OF 'backstitchkeep4.QueryPlain'. -/
def queryPlainUptoCard : Claim7 := { stood := { row := queryPlainUptoRow, standIns := [], harness := (true, "07166090070c4f5c870950ff3594c58fc0850e35d73387cce1cb5ffd1ca50f20"), looks := true }, kinds := [], alts := [], laidByText := true, laidKinds := [.data, .data, .data, .data, .sentinel, .sentinel, .listed, .data, .pinned], laidTests := true, laidLooks := .later }
def QueryPlainUptoCardSaid : Prop := Claim7.holds Tryd.pinned (.plain (OpenSpec.upto queryPlainSpec)) queryPlainUptoCard

/-- THE SECOND FORM's CARD OF 'backstitchkeep4.QueryBoole'. -/
def queryBooleUptoCard : Claim7 := { stood := { row := queryBooleUptoRow, standIns := [], harness := (true, "07166090070c4f5c870950ff3594c58fc0850e35d73387cce1cb5ffd1ca50f20"), looks := true }, kinds := [], alts := [], laidByText := true, laidKinds := [.data, .data, .data, .data, .sentinel, .sentinel, .listed, .data, .pinned], laidTests := true, laidLooks := .later }
def QueryBooleUptoCardSaid : Prop := Claim7.holds Tryd.pinned (.plain (OpenSpec.upto queryBooleSpec)) queryBooleUptoCard

/-- THE SECOND FORM's CARD OF 'backstitchkeep4.QueryEnds'. -/
def queryEndsUptoCard : Claim7 := { stood := { row := queryEndsUptoRow, standIns := [], harness := (true, "07166090070c4f5c870950ff3594c58fc0850e35d73387cce1cb5ffd1ca50f20"), looks := true }, kinds := [], alts := [], laidByText := true, laidKinds := [.data, .data, .data, .data, .sentinel, .sentinel, .listed, .data, .pinned], laidTests := true, laidLooks := .later }
def QueryEndsUptoCardSaid : Prop := Claim7.holds Tryd.pinned (.plain (OpenSpec.upto queryEndsSpec)) queryEndsUptoCard
end Rows
end Go.Proofs.YtenlhfmchhljdaaDoor
