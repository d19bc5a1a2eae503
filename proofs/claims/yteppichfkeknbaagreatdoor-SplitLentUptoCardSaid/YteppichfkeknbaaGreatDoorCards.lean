/-
  DERIVED. GIVEN WITH THE SEED: THE CARDS: each row of YteppichfkeknbaaGreatDoorRows.lean that lists a variable, with what it lists TIED to the program's text (the seventh form; the later family's looks); each row that meets fmt, with fmt's text TOLD by the authors' own Lean function (tested against real Go, not proved from fmt's source: count such statements apart). THE CARD IS WHAT COUNTS. Prove the row's statement (the work); the ties are given (YteppichfkeknbaaGreatDoorTie.lean); close each card by the builder's one call (the guide's Derived/Test/ToyasCard.lean, 'card_holds'). Laid BY PROGRAM, IN A SANDBOX (cutbox-door.mjs). By AI agents, Wed Nov 11 2026. No macro, syntax, notation, axiom, sorry.
-/
import Derived.Test.YteppichfkeknbaaGreatDoorRows
import GoSem.ClaimSeven
namespace Go.Proofs.YteppichfkeknbaaGreatDoor
namespace Rows

/-- THE TIED CARD OF 'weirlaw13.SplitLent'. -/
def splitLentCard : Claim7 := { stood := { row := splitLentRow, standIns := [], harness := (true, "6fc7c4dddbc73df8a7dcb6e481cd25b9cf12ed3a14aae10fa827a98ece200e79"), looks := false }, kinds := [], alts := [], laidByText := true, laidKinds := [.data], laidTests := true, laidLooks := .later }
def SplitLentCardSaid : Prop := Claim7.holds Tryz.pinned (.plain (OpenSpec.ofChange splitLentSpec)) splitLentCard

/-- THE TIED CARD OF 'weirlaw13.SplitPlays'. -/
def splitPlaysCard : Claim7 := { stood := { row := splitPlaysRow, standIns := [], harness := (true, "6fc7c4dddbc73df8a7dcb6e481cd25b9cf12ed3a14aae10fa827a98ece200e79"), looks := false }, kinds := [], alts := [], laidByText := true, laidKinds := [.data], laidTests := true, laidLooks := .later }
def SplitPlaysCardSaid : Prop := Claim7.holds Tryz.pinned (.plain (OpenSpec.ofChange splitPlaysSpec)) splitPlaysCard

/-- THE SECOND FORM's CARD OF 'weirlaw13.SplitLent'. -/
def splitLentUptoCard : Claim7 := { stood := { row := splitLentUptoRow, standIns := [], harness := (true, "6fc7c4dddbc73df8a7dcb6e481cd25b9cf12ed3a14aae10fa827a98ece200e79"), looks := false }, kinds := [], alts := [], laidByText := true, laidKinds := [.data], laidTests := true, laidLooks := .later }
def SplitLentUptoCardSaid : Prop := Claim7.holds Tryz.pinned (.plain (OpenSpec.upto splitLentSpec)) splitLentUptoCard

/-- THE SECOND FORM's CARD OF 'weirlaw13.SplitPlays'. -/
def splitPlaysUptoCard : Claim7 := { stood := { row := splitPlaysUptoRow, standIns := [], harness := (true, "6fc7c4dddbc73df8a7dcb6e481cd25b9cf12ed3a14aae10fa827a98ece200e79"), looks := false }, kinds := [], alts := [], laidByText := true, laidKinds := [.data], laidTests := true, laidLooks := .later }
def SplitPlaysUptoCardSaid : Prop := Claim7.holds Tryz.pinned (.plain (OpenSpec.upto splitPlaysSpec)) splitPlaysUptoCard
end Rows
end Go.Proofs.YteppichfkeknbaaGreatDoor
