/-
  DERIVED. GIVEN WITH THE SEED: THE CARDS: each row of YteppichfkeknbaaDoorRows.lean that lists a variable, with what it lists TIED to the program's text (the seventh form; the later family's looks); each row that meets fmt, with fmt's text TOLD by the authors' own Lean function (tested against real Go, not proved from fmt's source: count such statements apart). THE CARD IS WHAT COUNTS. Prove the row's statement (the work); the ties are given (YteppichfkeknbaaDoorTie.lean); close each card by the builder's one call (the guide's Derived/Test/ToyasCard.lean, 'card_holds'). Laid BY PROGRAM, IN A SANDBOX (cutbox-door.mjs). By AI agents, Wed Nov 11 2026. No macro, syntax, notation, axiom, sorry.
-/
import Derived.Test.YteppichfkeknbaaDoorRows
import GoSem.ClaimSeven
namespace Go.Proofs.YteppichfkeknbaaDoor
namespace Rows

/-- THE TIED CARD OF 'weirlaw13.SplitWhole4'. -/
def splitWhole4Card : Claim7 := { stood := { row := splitWhole4Row, standIns := [], harness := (true, "548a5c2bb25e6738d283a0c18bb7d2cdc841cb680b72986d1f8f872945450054"), looks := false }, kinds := [], alts := [], laidByText := true, laidKinds := [.data], laidTests := true, laidLooks := .later }
def SplitWhole4CardSaid : Prop := Claim7.holds Tryd.pinned (.plain (OpenSpec.ofChange splitWhole4Spec)) splitWhole4Card

/-- THE TIED CARD OF 'weirlaw13.SplitTwice'. -/
def splitTwiceCard : Claim7 := { stood := { row := splitTwiceRow, standIns := [], harness := (true, "548a5c2bb25e6738d283a0c18bb7d2cdc841cb680b72986d1f8f872945450054"), looks := false }, kinds := [], alts := [], laidByText := true, laidKinds := [.data], laidTests := true, laidLooks := .later }
def SplitTwiceCardSaid : Prop := Claim7.holds Tryd.pinned (.plain (OpenSpec.ofChange splitTwiceSpec)) splitTwiceCard

/-- THE TIED CARD OF 'weirlaw13.SplitOwn'. -/
def splitOwnCard : Claim7 := { stood := { row := splitOwnRow, standIns := [], harness := (true, "548a5c2bb25e6738d283a0c18bb7d2cdc841cb680b72986d1f8f872945450054"), looks := false }, kinds := [], alts := [], laidByText := true, laidKinds := [.data], laidTests := true, laidLooks := .later }
def SplitOwnCardSaid : Prop := Claim7.holds Tryd.pinned (.plain (OpenSpec.ofChange splitOwnSpec)) splitOwnCard

/-- THE TIED CARD OF 'weirlaw13.SplitFour'. -/
def splitFourCard : Claim7 := { stood := { row := splitFourRow, standIns := [], harness := (true, "548a5c2bb25e6738d283a0c18bb7d2cdc841cb680b72986d1f8f872945450054"), looks := false }, kinds := [], alts := [], laidByText := true, laidKinds := [.data], laidTests := true, laidLooks := .later }
def SplitFourCardSaid : Prop := Claim7.holds Tryd.pinned (.plain (OpenSpec.ofChange splitFourSpec)) splitFourCard

/-- THE TIED CARD OF 'weirlaw13.SplitSix'. -/
def splitSixCard : Claim7 := { stood := { row := splitSixRow, standIns := [], harness := (true, "548a5c2bb25e6738d283a0c18bb7d2cdc841cb680b72986d1f8f872945450054"), looks := false }, kinds := [], alts := [], laidByText := true, laidKinds := [.data], laidTests := true, laidLooks := .later }
def SplitSixCardSaid : Prop := Claim7.holds Tryd.pinned (.plain (OpenSpec.ofChange splitSixSpec)) splitSixCard

/-- THE TIED CARD OF 'weirlaw13.SplitMay6'. -/
def splitMay6Card : Claim7 := { stood := { row := splitMay6Row, standIns := [], harness := (true, "548a5c2bb25e6738d283a0c18bb7d2cdc841cb680b72986d1f8f872945450054"), looks := false }, kinds := [], alts := [], laidByText := true, laidKinds := [.data], laidTests := true, laidLooks := .later }
def SplitMay6CardSaid : Prop := Claim7.holds Tryd.pinned (.plain (OpenSpec.ofChange splitMay6Spec)) splitMay6Card

/-- THE TIED CARD OF 'weirlaw13.SplitAgain'. -/
def splitAgainCard : Claim7 := { stood := { row := splitAgainRow, standIns := [], harness := (true, "548a5c2bb25e6738d283a0c18bb7d2cdc841cb680b72986d1f8f872945450054"), looks := false }, kinds := [], alts := [], laidByText := true, laidKinds := [.data], laidTests := true, laidLooks := .later }
def SplitAgainCardSaid : Prop := Claim7.holds Tryd.pinned (.plain (OpenSpec.ofChange splitAgainSpec)) splitAgainCard

/-- THE TIED CARD OF 'weirlaw13.SplitMay4'. -/
def splitMay4Card : Claim7 := { stood := { row := splitMay4Row, standIns := [], harness := (true, "548a5c2bb25e6738d283a0c18bb7d2cdc841cb680b72986d1f8f872945450054"), looks := false }, kinds := [], alts := [], laidByText := true, laidKinds := [.data, .data], laidTests := true, laidLooks := .later }
def SplitMay4CardSaid : Prop := Claim7.holds Tryd.pinned (.plain (OpenSpec.ofChange splitMay4Spec)) splitMay4Card

/-- THE TIED CARD OF 'weirlaw13.SplitWhole6'. -/
def splitWhole6Card : Claim7 := { stood := { row := splitWhole6Row, standIns := [], harness := (true, "548a5c2bb25e6738d283a0c18bb7d2cdc841cb680b72986d1f8f872945450054"), looks := false }, kinds := [], alts := [], laidByText := true, laidKinds := [.data], laidTests := true, laidLooks := .later }
def SplitWhole6CardSaid : Prop := Claim7.holds Tryd.pinned (.plain (OpenSpec.ofChange splitWhole6Spec)) splitWhole6Card

/-- THE SECOND FORM's CARD OF 'weirlaw13.SplitWhole4'. -/
def splitWhole4UptoCard : Claim7 := { stood := { row := splitWhole4UptoRow, standIns := [], harness := (true, "548a5c2bb25e6738d283a0c18bb7d2cdc841cb680b72986d1f8f872945450054"), looks := false }, kinds := [], alts := [], laidByText := true, laidKinds := [.data], laidTests := true, laidLooks := .later }
def SplitWhole4UptoCardSaid : Prop := Claim7.holds Tryd.pinned (.plain (OpenSpec.upto splitWhole4Spec)) splitWhole4UptoCard

/-- THE SECOND FORM's CARD OF 'weirlaw13.SplitTwice'. -/
def splitTwiceUptoCard : Claim7 := { stood := { row := splitTwiceUptoRow, standIns := [], harness := (true, "548a5c2bb25e6738d283a0c18bb7d2cdc841cb680b72986d1f8f872945450054"), looks := false }, kinds := [], alts := [], laidByText := true, laidKinds := [.data], laidTests := true, laidLooks := .later }
def SplitTwiceUptoCardSaid : Prop := Claim7.holds Tryd.pinned (.plain (OpenSpec.upto splitTwiceSpec)) splitTwiceUptoCard

/-- THE SECOND FORM's CARD OF 'weirlaw13.SplitOwn'. -/
def splitOwnUptoCard : Claim7 := { stood := { row := splitOwnUptoRow, standIns := [], harness := (true, "548a5c2bb25e6738d283a0c18bb7d2cdc841cb680b72986d1f8f872945450054"), looks := false }, kinds := [], alts := [], laidByText := true, laidKinds := [.data], laidTests := true, laidLooks := .later }
def SplitOwnUptoCardSaid : Prop := Claim7.holds Tryd.pinned (.plain (OpenSpec.upto splitOwnSpec)) splitOwnUptoCard

/-- THE SECOND FORM's CARD OF 'weirlaw13.SplitFour'. -/
def splitFourUptoCard : Claim7 := { stood := { row := splitFourUptoRow, standIns := [], harness := (true, "548a5c2bb25e6738d283a0c18bb7d2cdc841cb680b72986d1f8f872945450054"), looks := false }, kinds := [], alts := [], laidByText := true, laidKinds := [.data], laidTests := true, laidLooks := .later }
def SplitFourUptoCardSaid : Prop := Claim7.holds Tryd.pinned (.plain (OpenSpec.upto splitFourSpec)) splitFourUptoCard

/-- THE SECOND FORM's CARD OF 'weirlaw13.SplitSix'. -/
def splitSixUptoCard : Claim7 := { stood := { row := splitSixUptoRow, standIns := [], harness := (true, "548a5c2bb25e6738d283a0c18bb7d2cdc841cb680b72986d1f8f872945450054"), looks := false }, kinds := [], alts := [], laidByText := true, laidKinds := [.data], laidTests := true, laidLooks := .later }
def SplitSixUptoCardSaid : Prop := Claim7.holds Tryd.pinned (.plain (OpenSpec.upto splitSixSpec)) splitSixUptoCard

/-- THE SECOND FORM's CARD OF 'weirlaw13.SplitMay6'. -/
def splitMay6UptoCard : Claim7 := { stood := { row := splitMay6UptoRow, standIns := [], harness := (true, "548a5c2bb25e6738d283a0c18bb7d2cdc841cb680b72986d1f8f872945450054"), looks := false }, kinds := [], alts := [], laidByText := true, laidKinds := [.data], laidTests := true, laidLooks := .later }
def SplitMay6UptoCardSaid : Prop := Claim7.holds Tryd.pinned (.plain (OpenSpec.upto splitMay6Spec)) splitMay6UptoCard

/-- THE SECOND FORM's CARD OF 'weirlaw13.SplitAgain'. -/
def splitAgainUptoCard : Claim7 := { stood := { row := splitAgainUptoRow, standIns := [], harness := (true, "548a5c2bb25e6738d283a0c18bb7d2cdc841cb680b72986d1f8f872945450054"), looks := false }, kinds := [], alts := [], laidByText := true, laidKinds := [.data], laidTests := true, laidLooks := .later }
def SplitAgainUptoCardSaid : Prop := Claim7.holds Tryd.pinned (.plain (OpenSpec.upto splitAgainSpec)) splitAgainUptoCard

/-- THE SECOND FORM's CARD OF 'weirlaw13.SplitMay4'. -/
def splitMay4UptoCard : Claim7 := { stood := { row := splitMay4UptoRow, standIns := [], harness := (true, "548a5c2bb25e6738d283a0c18bb7d2cdc841cb680b72986d1f8f872945450054"), looks := false }, kinds := [], alts := [], laidByText := true, laidKinds := [.data, .data], laidTests := true, laidLooks := .later }
def SplitMay4UptoCardSaid : Prop := Claim7.holds Tryd.pinned (.plain (OpenSpec.upto splitMay4Spec)) splitMay4UptoCard

/-- THE SECOND FORM's CARD OF 'weirlaw13.SplitWhole6'. -/
def splitWhole6UptoCard : Claim7 := { stood := { row := splitWhole6UptoRow, standIns := [], harness := (true, "548a5c2bb25e6738d283a0c18bb7d2cdc841cb680b72986d1f8f872945450054"), looks := false }, kinds := [], alts := [], laidByText := true, laidKinds := [.data], laidTests := true, laidLooks := .later }
def SplitWhole6UptoCardSaid : Prop := Claim7.holds Tryd.pinned (.plain (OpenSpec.upto splitWhole6Spec)) splitWhole6UptoCard
end Rows
end Go.Proofs.YteppichfkeknbaaDoor
