/-
  DERIVED. GIVEN WITH THE SEED: THE CARDS: each row of YthhgbpmihhljdaaDoorRows.lean that lists a variable, with what it lists TIED to the program's text (the seventh form; the later family's looks); each row that meets fmt, with fmt's text TOLD by the authors' own Lean function (tested against real Go, not proved from fmt's source: count such statements apart). THE CARD IS WHAT COUNTS. Prove the row's statement (the work); the ties are given (YthhgbpmihhljdaaDoorTie.lean); close each card by the builder's one call (the guide's Derived/Test/ToyasCard.lean, 'card_holds'). Laid BY PROGRAM, IN A SANDBOX (cutbox-door.mjs). By AI agents, Wed Nov 11 2026. No macro, syntax, notation, axiom, sorry.
-/
import Derived.Test.YthhgbpmihhljdaaDoorRows
import GoSem.ClaimSeven
namespace Go.Proofs.YthhgbpmihhljdaaDoor
namespace Rows

/-- THE TIED CARD OF 'weirtop.TopBounded'. -/
def topBoundedCard : Claim7 := { stood := { row := topBoundedRow, standIns := [], harness := (true, "dbf0d04c5a73266d164f4703190248a81a0500a8ff63c4469520bebdf8a6eb96"), looks := false }, kinds := [], alts := [], laidByText := true, laidKinds := [.data], laidTests := true, laidLooks := .later }
def TopBoundedCardSaid : Prop := Claim7.holds Tryd.pinned (.plain (OpenSpec.ofChange topBoundedSpec)) topBoundedCard

/-- THE SECOND FORM's CARD OF 'weirtop.TopBounded'. -/
def topBoundedUptoCard : Claim7 := { stood := { row := topBoundedUptoRow, standIns := [], harness := (true, "dbf0d04c5a73266d164f4703190248a81a0500a8ff63c4469520bebdf8a6eb96"), looks := false }, kinds := [], alts := [], laidByText := true, laidKinds := [.data], laidTests := true, laidLooks := .later }
def TopBoundedUptoCardSaid : Prop := Claim7.holds Tryd.pinned (.plain (OpenSpec.upto topBoundedSpec)) topBoundedUptoCard
end Rows
end Go.Proofs.YthhgbpmihhljdaaDoor
