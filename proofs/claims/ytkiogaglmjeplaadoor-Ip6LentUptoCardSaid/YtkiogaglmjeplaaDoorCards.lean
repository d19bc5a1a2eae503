/-
  DERIVED. GIVEN WITH THE SEED: THE CARDS: each row of YtkiogaglmjeplaaDoorRows.lean that lists a variable, with what it lists TIED to the program's text (the seventh form; the later family's looks); each row that meets fmt, with fmt's text TOLD by the authors' own Lean function (tested against real Go, not proved from fmt's source: count such statements apart). THE CARD IS WHAT COUNTS. Prove the row's statement (the work); the ties are given (YtkiogaglmjeplaaDoorTie.lean); close each card by the builder's one call (the guide's Derived/Test/ToyasCard.lean, 'card_holds'). Laid BY PROGRAM, IN A SANDBOX (cutbox-door.mjs). By AI agents, Wed Nov 11 2026. No macro, syntax, notation, axiom, sorry.
-/
import Derived.Test.YtkiogaglmjeplaaDoorRows
import GoSem.ClaimSeven
namespace Go.Proofs.YtkiogaglmjeplaaDoor
namespace Rows

/-- THE TIED CARD OF 'weirlaw7.Ip6Short'. -/
def ip6ShortCard : Claim7 := { stood := { row := ip6ShortRow, standIns := [], harness := (true, "33ee5e27fdd70c5064f3faf8f9d56c704b0791ef7a73f75244f80244b66fb55f"), looks := false }, kinds := [], alts := [], laidByText := true, laidKinds := [.data], laidTests := true, laidLooks := .later }
def Ip6ShortCardSaid : Prop := Claim7.holds Tryd.pinned (.plain (OpenSpec.ofChange ip6ShortSpec)) ip6ShortCard

/-- THE TIED CARD OF 'weirlaw7.Ip6Unlike'. -/
def ip6UnlikeCard : Claim7 := { stood := { row := ip6UnlikeRow, standIns := [], harness := (true, "33ee5e27fdd70c5064f3faf8f9d56c704b0791ef7a73f75244f80244b66fb55f"), looks := false }, kinds := [], alts := [], laidByText := true, laidKinds := [.data], laidTests := true, laidLooks := .later }
def Ip6UnlikeCardSaid : Prop := Claim7.holds Tryd.pinned (.plain (OpenSpec.ofChange ip6UnlikeSpec)) ip6UnlikeCard

/-- THE TIED CARD OF 'weirlaw7.Ip6Windows'. -/
def ip6WindowsCard : Claim7 := { stood := { row := ip6WindowsRow, standIns := [], harness := (true, "33ee5e27fdd70c5064f3faf8f9d56c704b0791ef7a73f75244f80244b66fb55f"), looks := false }, kinds := [], alts := [], laidByText := true, laidKinds := [.data], laidTests := true, laidLooks := .later }
def Ip6WindowsCardSaid : Prop := Claim7.holds Tryd.pinned (.plain (OpenSpec.ofChange ip6WindowsSpec)) ip6WindowsCard

/-- THE TIED CARD OF 'weirlaw7.Ip6Links'. -/
def ip6LinksCard : Claim7 := { stood := { row := ip6LinksRow, standIns := [], harness := (true, "33ee5e27fdd70c5064f3faf8f9d56c704b0791ef7a73f75244f80244b66fb55f"), looks := false }, kinds := [], alts := [], laidByText := true, laidKinds := [.data], laidTests := true, laidLooks := .later }
def Ip6LinksCardSaid : Prop := Claim7.holds Tryd.pinned (.plain (OpenSpec.ofChange ip6LinksSpec)) ip6LinksCard

/-- THE TIED CARD OF 'weirlaw7.Ip6Own'. -/
def ip6OwnCard : Claim7 := { stood := { row := ip6OwnRow, standIns := [], harness := (true, "33ee5e27fdd70c5064f3faf8f9d56c704b0791ef7a73f75244f80244b66fb55f"), looks := false }, kinds := [], alts := [], laidByText := true, laidKinds := [.data], laidTests := true, laidLooks := .later }
def Ip6OwnCardSaid : Prop := Claim7.holds Tryd.pinned (.plain (OpenSpec.ofChange ip6OwnSpec)) ip6OwnCard

/-- THE TIED CARD OF 'weirlaw7.Ip6Lent'. -/
def ip6LentCard : Claim7 := { stood := { row := ip6LentRow, standIns := [], harness := (true, "33ee5e27fdd70c5064f3faf8f9d56c704b0791ef7a73f75244f80244b66fb55f"), looks := false }, kinds := [], alts := [], laidByText := true, laidKinds := [.data], laidTests := true, laidLooks := .later }
def Ip6LentCardSaid : Prop := Claim7.holds Tryd.pinned (.plain (OpenSpec.ofChange ip6LentSpec)) ip6LentCard

/-- THE TIED CARD OF 'weirlaw7.Ip6Canon'. -/
def ip6CanonCard : Claim7 := { stood := { row := ip6CanonRow, standIns := [], harness := (true, "33ee5e27fdd70c5064f3faf8f9d56c704b0791ef7a73f75244f80244b66fb55f"), looks := false }, kinds := [], alts := [], laidByText := true, laidKinds := [.data], laidTests := true, laidLooks := .later }
def Ip6CanonCardSaid : Prop := Claim7.holds Tryd.pinned (.plain (OpenSpec.ofChange ip6CanonSpec)) ip6CanonCard

/-- THE TIED CARD OF 'weirlaw7.Ip6Back'. -/
def ip6BackCard : Claim7 := { stood := { row := ip6BackRow, standIns := [], harness := (true, "33ee5e27fdd70c5064f3faf8f9d56c704b0791ef7a73f75244f80244b66fb55f"), looks := false }, kinds := [], alts := [], laidByText := true, laidKinds := [.data], laidTests := true, laidLooks := .later }
def Ip6BackCardSaid : Prop := Claim7.holds Tryd.pinned (.plain (OpenSpec.ofChange ip6BackSpec)) ip6BackCard

/-- THE TIED CARD OF 'weirlaw7.Ip6Hops'. -/
def ip6HopsCard : Claim7 := { stood := { row := ip6HopsRow, standIns := [], harness := (true, "33ee5e27fdd70c5064f3faf8f9d56c704b0791ef7a73f75244f80244b66fb55f"), looks := false }, kinds := [], alts := [], laidByText := true, laidKinds := [.data], laidTests := true, laidLooks := .later }
def Ip6HopsCardSaid : Prop := Claim7.holds Tryd.pinned (.plain (OpenSpec.ofChange ip6HopsSpec)) ip6HopsCard

/-- THE TIED CARD OF 'weirlaw7.Ip6Again'. -/
def ip6AgainCard : Claim7 := { stood := { row := ip6AgainRow, standIns := [], harness := (true, "33ee5e27fdd70c5064f3faf8f9d56c704b0791ef7a73f75244f80244b66fb55f"), looks := false }, kinds := [], alts := [], laidByText := true, laidKinds := [.data], laidTests := true, laidLooks := .later }
def Ip6AgainCardSaid : Prop := Claim7.holds Tryd.pinned (.plain (OpenSpec.ofChange ip6AgainSpec)) ip6AgainCard

/-- THE SECOND FORM's CARD OF 'weirlaw7.Ip6Short'. -/
def ip6ShortUptoCard : Claim7 := { stood := { row := ip6ShortUptoRow, standIns := [], harness := (true, "33ee5e27fdd70c5064f3faf8f9d56c704b0791ef7a73f75244f80244b66fb55f"), looks := false }, kinds := [], alts := [], laidByText := true, laidKinds := [.data], laidTests := true, laidLooks := .later }
def Ip6ShortUptoCardSaid : Prop := Claim7.holds Tryd.pinned (.plain (OpenSpec.upto ip6ShortSpec)) ip6ShortUptoCard

/-- THE SECOND FORM's CARD OF 'weirlaw7.Ip6Unlike'. -/
def ip6UnlikeUptoCard : Claim7 := { stood := { row := ip6UnlikeUptoRow, standIns := [], harness := (true, "33ee5e27fdd70c5064f3faf8f9d56c704b0791ef7a73f75244f80244b66fb55f"), looks := false }, kinds := [], alts := [], laidByText := true, laidKinds := [.data], laidTests := true, laidLooks := .later }
def Ip6UnlikeUptoCardSaid : Prop := Claim7.holds Tryd.pinned (.plain (OpenSpec.upto ip6UnlikeSpec)) ip6UnlikeUptoCard

/-- THE SECOND FORM's CARD OF 'weirlaw7.Ip6Windows'. -/
def ip6WindowsUptoCard : Claim7 := { stood := { row := ip6WindowsUptoRow, standIns := [], harness := (true, "33ee5e27fdd70c5064f3faf8f9d56c704b0791ef7a73f75244f80244b66fb55f"), looks := false }, kinds := [], alts := [], laidByText := true, laidKinds := [.data], laidTests := true, laidLooks := .later }
def Ip6WindowsUptoCardSaid : Prop := Claim7.holds Tryd.pinned (.plain (OpenSpec.upto ip6WindowsSpec)) ip6WindowsUptoCard

/-- THE SECOND FORM's CARD OF 'weirlaw7.Ip6Links'. -/
def ip6LinksUptoCard : Claim7 := { stood := { row := ip6LinksUptoRow, standIns := [], harness := (true, "33ee5e27fdd70c5064f3faf8f9d56c704b0791ef7a73f75244f80244b66fb55f"), looks := false }, kinds := [], alts := [], laidByText := true, laidKinds := [.data], laidTests := true, laidLooks := .later }
def Ip6LinksUptoCardSaid : Prop := Claim7.holds Tryd.pinned (.plain (OpenSpec.upto ip6LinksSpec)) ip6LinksUptoCard

/-- THE SECOND FORM's CARD OF 'weirlaw7.Ip6Own'. -/
def ip6OwnUptoCard : Claim7 := { stood := { row := ip6OwnUptoRow, standIns := [], harness := (true, "33ee5e27fdd70c5064f3faf8f9d56c704b0791ef7a73f75244f80244b66fb55f"), looks := false }, kinds := [], alts := [], laidByText := true, laidKinds := [.data], laidTests := true, laidLooks := .later }
def Ip6OwnUptoCardSaid : Prop := Claim7.holds Tryd.pinned (.plain (OpenSpec.upto ip6OwnSpec)) ip6OwnUptoCard

/-- THE SECOND FORM's CARD OF 'weirlaw7.Ip6Lent'. -/
def ip6LentUptoCard : Claim7 := { stood := { row := ip6LentUptoRow, standIns := [], harness := (true, "33ee5e27fdd70c5064f3faf8f9d56c704b0791ef7a73f75244f80244b66fb55f"), looks := false }, kinds := [], alts := [], laidByText := true, laidKinds := [.data], laidTests := true, laidLooks := .later }
def Ip6LentUptoCardSaid : Prop := Claim7.holds Tryd.pinned (.plain (OpenSpec.upto ip6LentSpec)) ip6LentUptoCard

/-- THE SECOND FORM's CARD OF 'weirlaw7.Ip6Canon'. -/
def ip6CanonUptoCard : Claim7 := { stood := { row := ip6CanonUptoRow, standIns := [], harness := (true, "33ee5e27fdd70c5064f3faf8f9d56c704b0791ef7a73f75244f80244b66fb55f"), looks := false }, kinds := [], alts := [], laidByText := true, laidKinds := [.data], laidTests := true, laidLooks := .later }
def Ip6CanonUptoCardSaid : Prop := Claim7.holds Tryd.pinned (.plain (OpenSpec.upto ip6CanonSpec)) ip6CanonUptoCard

/-- THE SECOND FORM's CARD OF 'weirlaw7.Ip6Back'. -/
def ip6BackUptoCard : Claim7 := { stood := { row := ip6BackUptoRow, standIns := [], harness := (true, "33ee5e27fdd70c5064f3faf8f9d56c704b0791ef7a73f75244f80244b66fb55f"), looks := false }, kinds := [], alts := [], laidByText := true, laidKinds := [.data], laidTests := true, laidLooks := .later }
def Ip6BackUptoCardSaid : Prop := Claim7.holds Tryd.pinned (.plain (OpenSpec.upto ip6BackSpec)) ip6BackUptoCard

/-- THE SECOND FORM's CARD OF 'weirlaw7.Ip6Hops'. -/
def ip6HopsUptoCard : Claim7 := { stood := { row := ip6HopsUptoRow, standIns := [], harness := (true, "33ee5e27fdd70c5064f3faf8f9d56c704b0791ef7a73f75244f80244b66fb55f"), looks := false }, kinds := [], alts := [], laidByText := true, laidKinds := [.data], laidTests := true, laidLooks := .later }
def Ip6HopsUptoCardSaid : Prop := Claim7.holds Tryd.pinned (.plain (OpenSpec.upto ip6HopsSpec)) ip6HopsUptoCard

/-- THE SECOND FORM's CARD OF 'weirlaw7.Ip6Again'. -/
def ip6AgainUptoCard : Claim7 := { stood := { row := ip6AgainUptoRow, standIns := [], harness := (true, "33ee5e27fdd70c5064f3faf8f9d56c704b0791ef7a73f75244f80244b66fb55f"), looks := false }, kinds := [], alts := [], laidByText := true, laidKinds := [.data], laidTests := true, laidLooks := .later }
def Ip6AgainUptoCardSaid : Prop := Claim7.holds Tryd.pinned (.plain (OpenSpec.upto ip6AgainSpec)) ip6AgainUptoCard
end Rows
end Go.Proofs.YtkiogaglmjeplaaDoor
