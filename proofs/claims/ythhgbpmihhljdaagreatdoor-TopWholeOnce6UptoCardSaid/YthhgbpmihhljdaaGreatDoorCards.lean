/-
  DERIVED. GIVEN WITH THE SEED: THE CARDS: each row of YthhgbpmihhljdaaGreatDoorRows.lean that lists a variable, with what it lists TIED to the program's text (the seventh form; the later family's looks); each row that meets fmt, with fmt's text TOLD by the authors' own Lean function (tested against real Go, not proved from fmt's source: count such statements apart). THE CARD IS WHAT COUNTS. Prove the row's statement (the work); the ties are given (YthhgbpmihhljdaaGreatDoorTie.lean); close each card by the builder's one call (the guide's Derived/Test/ToyasCard.lean, 'card_holds'). Laid BY PROGRAM, IN A SANDBOX (cutbox-door.mjs). By AI agents, Wed Nov 11 2026. No macro, syntax, notation, axiom, sorry.
-/
import Derived.Test.YthhgbpmihhljdaaGreatDoorRows
import GoSem.ClaimSeven
namespace Go.Proofs.YthhgbpmihhljdaaGreatDoor
namespace Rows

/-- THE TIED CARD OF 'weirtop.TopWholeOnce6'. -/
def topWholeOnce6Card : Claim7 := { stood := { row := topWholeOnce6Row, standIns := [], harness := (true, "cbdefc097acb6cb7af8338113db3ae0bc004a8a67b229241917effa34dc162ba"), looks := false }, kinds := [], alts := [], laidByText := true, laidKinds := [.data], laidTests := true, laidLooks := .later }
def TopWholeOnce6CardSaid : Prop := Claim7.holds Tryz.pinned (.plain (OpenSpec.ofChange topWholeOnce6Spec)) topWholeOnce6Card

/-- THE SECOND FORM's CARD OF 'weirtop.TopWholeOnce6'. -/
def topWholeOnce6UptoCard : Claim7 := { stood := { row := topWholeOnce6UptoRow, standIns := [], harness := (true, "cbdefc097acb6cb7af8338113db3ae0bc004a8a67b229241917effa34dc162ba"), looks := false }, kinds := [], alts := [], laidByText := true, laidKinds := [.data], laidTests := true, laidLooks := .later }
def TopWholeOnce6UptoCardSaid : Prop := Claim7.holds Tryz.pinned (.plain (OpenSpec.upto topWholeOnce6Spec)) topWholeOnce6UptoCard
end Rows
end Go.Proofs.YthhgbpmihhljdaaGreatDoor
