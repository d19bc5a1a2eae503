/-
  DERIVED. GIVEN WITH THE SEED: THE CARDS: each row of YtkiogaglmjeplaaGreatDoorRows.lean that lists a variable, with what it lists TIED to the program's text (the seventh form; the later family's looks); each row that meets fmt, with fmt's text TOLD by the authors' own Lean function (tested against real Go, not proved from fmt's source: count such statements apart). THE CARD IS WHAT COUNTS. Prove the row's statement (the work); the ties are given (YtkiogaglmjeplaaGreatDoorTie.lean); close each card by the builder's one call (the guide's Derived/Test/ToyasCard.lean, 'card_holds'). Laid BY PROGRAM, IN A SANDBOX (cutbox-door.mjs). By AI agents, Wed Nov 11 2026. No macro, syntax, notation, axiom, sorry.
-/
import Derived.Test.YtkiogaglmjeplaaGreatDoorRows
import GoSem.ClaimSeven
namespace Go.Proofs.YtkiogaglmjeplaaGreatDoor
namespace Rows

/-- THE TIED CARD OF 'weirlaw7.Ip6Reads'. -/
def ip6ReadsCard : Claim7 := { stood := { row := ip6ReadsRow, standIns := [], harness := (true, "8bd3a11f76062a1f09a1e996b07ae419c6c7f0c5cb38e5c30bf1a259a1f11984"), looks := false }, kinds := [], alts := [], laidByText := true, laidKinds := [.data], laidTests := true, laidLooks := .later }
def Ip6ReadsCardSaid : Prop := Claim7.holds Tryz.pinned (.plain (OpenSpec.ofChange ip6ReadsSpec)) ip6ReadsCard

/-- THE TIED CARD OF 'weirlaw7.Ip6Writes'. -/
def ip6WritesCard : Claim7 := { stood := { row := ip6WritesRow, standIns := [], harness := (true, "8bd3a11f76062a1f09a1e996b07ae419c6c7f0c5cb38e5c30bf1a259a1f11984"), looks := false }, kinds := [], alts := [], laidByText := true, laidKinds := [.data], laidTests := true, laidLooks := .later }
def Ip6WritesCardSaid : Prop := Claim7.holds Tryz.pinned (.plain (OpenSpec.ofChange ip6WritesSpec)) ip6WritesCard

/-- THE TIED CARD OF 'weirlaw7.Ip6Chains'. -/
def ip6ChainsCard : Claim7 := { stood := { row := ip6ChainsRow, standIns := [], harness := (true, "8bd3a11f76062a1f09a1e996b07ae419c6c7f0c5cb38e5c30bf1a259a1f11984"), looks := false }, kinds := [], alts := [], laidByText := true, laidKinds := [.data], laidTests := true, laidLooks := .later }
def Ip6ChainsCardSaid : Prop := Claim7.holds Tryz.pinned (.plain (OpenSpec.ofChange ip6ChainsSpec)) ip6ChainsCard

/-- THE TIED CARD OF 'weirlaw7.Ip6Plays'. -/
def ip6PlaysCard : Claim7 := { stood := { row := ip6PlaysRow, standIns := [], harness := (true, "8bd3a11f76062a1f09a1e996b07ae419c6c7f0c5cb38e5c30bf1a259a1f11984"), looks := false }, kinds := [], alts := [], laidByText := true, laidKinds := [.data], laidTests := true, laidLooks := .later }
def Ip6PlaysCardSaid : Prop := Claim7.holds Tryz.pinned (.plain (OpenSpec.ofChange ip6PlaysSpec)) ip6PlaysCard

/-- THE SECOND FORM's CARD OF 'weirlaw7.Ip6Reads'. -/
def ip6ReadsUptoCard : Claim7 := { stood := { row := ip6ReadsUptoRow, standIns := [], harness := (true, "8bd3a11f76062a1f09a1e996b07ae419c6c7f0c5cb38e5c30bf1a259a1f11984"), looks := false }, kinds := [], alts := [], laidByText := true, laidKinds := [.data], laidTests := true, laidLooks := .later }
def Ip6ReadsUptoCardSaid : Prop := Claim7.holds Tryz.pinned (.plain (OpenSpec.upto ip6ReadsSpec)) ip6ReadsUptoCard

/-- THE SECOND FORM's CARD OF 'weirlaw7.Ip6Writes'. -/
def ip6WritesUptoCard : Claim7 := { stood := { row := ip6WritesUptoRow, standIns := [], harness := (true, "8bd3a11f76062a1f09a1e996b07ae419c6c7f0c5cb38e5c30bf1a259a1f11984"), looks := false }, kinds := [], alts := [], laidByText := true, laidKinds := [.data], laidTests := true, laidLooks := .later }
def Ip6WritesUptoCardSaid : Prop := Claim7.holds Tryz.pinned (.plain (OpenSpec.upto ip6WritesSpec)) ip6WritesUptoCard

/-- THE SECOND FORM's CARD OF 'weirlaw7.Ip6Chains'. -/
def ip6ChainsUptoCard : Claim7 := { stood := { row := ip6ChainsUptoRow, standIns := [], harness := (true, "8bd3a11f76062a1f09a1e996b07ae419c6c7f0c5cb38e5c30bf1a259a1f11984"), looks := false }, kinds := [], alts := [], laidByText := true, laidKinds := [.data], laidTests := true, laidLooks := .later }
def Ip6ChainsUptoCardSaid : Prop := Claim7.holds Tryz.pinned (.plain (OpenSpec.upto ip6ChainsSpec)) ip6ChainsUptoCard

/-- THE SECOND FORM's CARD OF 'weirlaw7.Ip6Plays'. -/
def ip6PlaysUptoCard : Claim7 := { stood := { row := ip6PlaysUptoRow, standIns := [], harness := (true, "8bd3a11f76062a1f09a1e996b07ae419c6c7f0c5cb38e5c30bf1a259a1f11984"), looks := false }, kinds := [], alts := [], laidByText := true, laidKinds := [.data], laidTests := true, laidLooks := .later }
def Ip6PlaysUptoCardSaid : Prop := Claim7.holds Tryz.pinned (.plain (OpenSpec.upto ip6PlaysSpec)) ip6PlaysUptoCard
end Rows
end Go.Proofs.YtkiogaglmjeplaaGreatDoor
