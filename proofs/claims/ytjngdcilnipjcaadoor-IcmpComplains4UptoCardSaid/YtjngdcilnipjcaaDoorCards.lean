/-
  DERIVED. GIVEN WITH THE SEED: THE CARDS: each row of YtjngdcilnipjcaaDoorRows.lean that lists a variable, with what it lists TIED to the program's text (the seventh form; the later family's looks); each row that meets fmt, with fmt's text TOLD by the authors' own Lean function (tested against real Go, not proved from fmt's source: count such statements apart). THE CARD IS WHAT COUNTS. Prove the row's statement (the work); the ties are given (YtjngdcilnipjcaaDoorTie.lean); close each card by the builder's one call (the guide's Derived/Test/ToyasCard.lean, 'card_holds'). Laid BY PROGRAM, IN A SANDBOX (cutbox-door.mjs). By AI agents, Wed Nov 11 2026. No macro, syntax, notation, axiom, sorry.
-/
import Derived.Test.YtjngdcilnipjcaaDoorRows
import GoSem.ClaimSeven
namespace Go.Proofs.YtjngdcilnipjcaaDoor
namespace Rows

/-- THE TIED CARD OF 'weirlaw8.IcmpNds'. -/
def icmpNdsCard : Claim7 := { stood := { row := icmpNdsRow, standIns := [], harness := (true, "9593c0c519557141a849cbb039a7fd46279e73c15ca365e96b8965bbaa8c4c57"), looks := false }, kinds := [], alts := [], laidByText := true, laidKinds := [.data], laidTests := true, laidLooks := .later }
def IcmpNdsCardSaid : Prop := Claim7.holds Tryd.pinned (.plain (OpenSpec.ofChange icmpNdsSpec)) icmpNdsCard

/-- THE TIED CARD OF 'weirlaw8.IcmpNdPuts'. -/
def icmpNdPutsCard : Claim7 := { stood := { row := icmpNdPutsRow, standIns := [], harness := (true, "9593c0c519557141a849cbb039a7fd46279e73c15ca365e96b8965bbaa8c4c57"), looks := false }, kinds := [], alts := [], laidByText := true, laidKinds := [.data], laidTests := true, laidLooks := .later }
def IcmpNdPutsCardSaid : Prop := Claim7.holds Tryd.pinned (.plain (OpenSpec.ofChange icmpNdPutsSpec)) icmpNdPutsCard

/-- THE TIED CARD OF 'weirlaw8.IcmpNdBack'. -/
def icmpNdBackCard : Claim7 := { stood := { row := icmpNdBackRow, standIns := [], harness := (true, "9593c0c519557141a849cbb039a7fd46279e73c15ca365e96b8965bbaa8c4c57"), looks := false }, kinds := [], alts := [], laidByText := true, laidKinds := [.data], laidTests := true, laidLooks := .later }
def IcmpNdBackCardSaid : Prop := Claim7.holds Tryd.pinned (.plain (OpenSpec.ofChange icmpNdBackSpec)) icmpNdBackCard

/-- THE TIED CARD OF 'weirlaw8.IcmpWrites'. -/
def icmpWritesCard : Claim7 := { stood := { row := icmpWritesRow, standIns := [], harness := (true, "9593c0c519557141a849cbb039a7fd46279e73c15ca365e96b8965bbaa8c4c57"), looks := false }, kinds := [], alts := [], laidByText := true, laidKinds := [.data], laidTests := true, laidLooks := .later }
def IcmpWritesCardSaid : Prop := Claim7.holds Tryd.pinned (.plain (OpenSpec.ofChange icmpWritesSpec)) icmpWritesCard

/-- THE TIED CARD OF 'weirlaw8.IcmpParses'. -/
def icmpParsesCard : Claim7 := { stood := { row := icmpParsesRow, standIns := [], harness := (true, "9593c0c519557141a849cbb039a7fd46279e73c15ca365e96b8965bbaa8c4c57"), looks := false }, kinds := [], alts := [], laidByText := true, laidKinds := [.data], laidTests := true, laidLooks := .later }
def IcmpParsesCardSaid : Prop := Claim7.holds Tryd.pinned (.plain (OpenSpec.ofChange icmpParsesSpec)) icmpParsesCard

/-- THE TIED CARD OF 'weirlaw8.IcmpBack'. -/
def icmpBackCard : Claim7 := { stood := { row := icmpBackRow, standIns := [], harness := (true, "9593c0c519557141a849cbb039a7fd46279e73c15ca365e96b8965bbaa8c4c57"), looks := false }, kinds := [], alts := [], laidByText := true, laidKinds := [.data], laidTests := true, laidLooks := .later }
def IcmpBackCardSaid : Prop := Claim7.holds Tryd.pinned (.plain (OpenSpec.ofChange icmpBackSpec)) icmpBackCard

/-- THE TIED CARD OF 'weirlaw8.IcmpAgain'. -/
def icmpAgainCard : Claim7 := { stood := { row := icmpAgainRow, standIns := [], harness := (true, "9593c0c519557141a849cbb039a7fd46279e73c15ca365e96b8965bbaa8c4c57"), looks := false }, kinds := [], alts := [], laidByText := true, laidKinds := [.data], laidTests := true, laidLooks := .later }
def IcmpAgainCardSaid : Prop := Claim7.holds Tryd.pinned (.plain (OpenSpec.ofChange icmpAgainSpec)) icmpAgainCard

/-- THE TIED CARD OF 'weirlaw8.IcmpComplains4'. -/
def icmpComplains4Card : Claim7 := { stood := { row := icmpComplains4Row, standIns := [], harness := (true, "9593c0c519557141a849cbb039a7fd46279e73c15ca365e96b8965bbaa8c4c57"), looks := false }, kinds := [], alts := [], laidByText := true, laidKinds := [.data, .data, .data, .data], laidTests := true, laidLooks := .later }
def IcmpComplains4CardSaid : Prop := Claim7.holds Tryd.pinned (.plain (OpenSpec.ofChange icmpComplains4Spec)) icmpComplains4Card

/-- THE TIED CARD OF 'weirlaw8.IcmpComplains6'. -/
def icmpComplains6Card : Claim7 := { stood := { row := icmpComplains6Row, standIns := [], harness := (true, "9593c0c519557141a849cbb039a7fd46279e73c15ca365e96b8965bbaa8c4c57"), looks := false }, kinds := [], alts := [], laidByText := true, laidKinds := [.data, .data, .data, .data], laidTests := true, laidLooks := .later }
def IcmpComplains6CardSaid : Prop := Claim7.holds Tryd.pinned (.plain (OpenSpec.ofChange icmpComplains6Spec)) icmpComplains6Card

/-- THE TIED CARD OF 'weirlaw8.IcmpQuiet'. -/
def icmpQuietCard : Claim7 := { stood := { row := icmpQuietRow, standIns := [], harness := (true, "9593c0c519557141a849cbb039a7fd46279e73c15ca365e96b8965bbaa8c4c57"), looks := false }, kinds := [], alts := [], laidByText := true, laidKinds := [.data, .data, .data, .data], laidTests := true, laidLooks := .later }
def IcmpQuietCardSaid : Prop := Claim7.holds Tryd.pinned (.plain (OpenSpec.ofChange icmpQuietSpec)) icmpQuietCard

/-- THE SECOND FORM's CARD OF 'weirlaw8.IcmpNds'. -/
def icmpNdsUptoCard : Claim7 := { stood := { row := icmpNdsUptoRow, standIns := [], harness := (true, "9593c0c519557141a849cbb039a7fd46279e73c15ca365e96b8965bbaa8c4c57"), looks := false }, kinds := [], alts := [], laidByText := true, laidKinds := [.data], laidTests := true, laidLooks := .later }
def IcmpNdsUptoCardSaid : Prop := Claim7.holds Tryd.pinned (.plain (OpenSpec.upto icmpNdsSpec)) icmpNdsUptoCard

/-- THE SECOND FORM's CARD OF 'weirlaw8.IcmpNdPuts'. -/
def icmpNdPutsUptoCard : Claim7 := { stood := { row := icmpNdPutsUptoRow, standIns := [], harness := (true, "9593c0c519557141a849cbb039a7fd46279e73c15ca365e96b8965bbaa8c4c57"), looks := false }, kinds := [], alts := [], laidByText := true, laidKinds := [.data], laidTests := true, laidLooks := .later }
def IcmpNdPutsUptoCardSaid : Prop := Claim7.holds Tryd.pinned (.plain (OpenSpec.upto icmpNdPutsSpec)) icmpNdPutsUptoCard

/-- THE SECOND FORM's CARD OF 'weirlaw8.IcmpNdBack'. -/
def icmpNdBackUptoCard : Claim7 := { stood := { row := icmpNdBackUptoRow, standIns := [], harness := (true, "9593c0c519557141a849cbb039a7fd46279e73c15ca365e96b8965bbaa8c4c57"), looks := false }, kinds := [], alts := [], laidByText := true, laidKinds := [.data], laidTests := true, laidLooks := .later }
def IcmpNdBackUptoCardSaid : Prop := Claim7.holds Tryd.pinned (.plain (OpenSpec.upto icmpNdBackSpec)) icmpNdBackUptoCard

/-- THE SECOND FORM's CARD OF 'weirlaw8.IcmpWrites'. -/
def icmpWritesUptoCard : Claim7 := { stood := { row := icmpWritesUptoRow, standIns := [], harness := (true, "9593c0c519557141a849cbb039a7fd46279e73c15ca365e96b8965bbaa8c4c57"), looks := false }, kinds := [], alts := [], laidByText := true, laidKinds := [.data], laidTests := true, laidLooks := .later }
def IcmpWritesUptoCardSaid : Prop := Claim7.holds Tryd.pinned (.plain (OpenSpec.upto icmpWritesSpec)) icmpWritesUptoCard

/-- THE SECOND FORM's CARD OF 'weirlaw8.IcmpParses'. -/
def icmpParsesUptoCard : Claim7 := { stood := { row := icmpParsesUptoRow, standIns := [], harness := (true, "9593c0c519557141a849cbb039a7fd46279e73c15ca365e96b8965bbaa8c4c57"), looks := false }, kinds := [], alts := [], laidByText := true, laidKinds := [.data], laidTests := true, laidLooks := .later }
def IcmpParsesUptoCardSaid : Prop := Claim7.holds Tryd.pinned (.plain (OpenSpec.upto icmpParsesSpec)) icmpParsesUptoCard

/-- THE SECOND FORM's CARD OF 'weirlaw8.IcmpBack'. -/
def icmpBackUptoCard : Claim7 := { stood := { row := icmpBackUptoRow, standIns := [], harness := (true, "9593c0c519557141a849cbb039a7fd46279e73c15ca365e96b8965bbaa8c4c57"), looks := false }, kinds := [], alts := [], laidByText := true, laidKinds := [.data], laidTests := true, laidLooks := .later }
def IcmpBackUptoCardSaid : Prop := Claim7.holds Tryd.pinned (.plain (OpenSpec.upto icmpBackSpec)) icmpBackUptoCard

/-- THE SECOND FORM's CARD OF 'weirlaw8.IcmpAgain'. -/
def icmpAgainUptoCard : Claim7 := { stood := { row := icmpAgainUptoRow, standIns := [], harness := (true, "9593c0c519557141a849cbb039a7fd46279e73c15ca365e96b8965bbaa8c4c57"), looks := false }, kinds := [], alts := [], laidByText := true, laidKinds := [.data], laidTests := true, laidLooks := .later }
def IcmpAgainUptoCardSaid : Prop := Claim7.holds Tryd.pinned (.plain (OpenSpec.upto icmpAgainSpec)) icmpAgainUptoCard

/-- THE SECOND FORM's CARD OF 'weirlaw8.IcmpComplains4'. -/
def icmpComplains4UptoCard : Claim7 := { stood := { row := icmpComplains4UptoRow, standIns := [], harness := (true, "9593c0c519557141a849cbb039a7fd46279e73c15ca365e96b8965bbaa8c4c57"), looks := false }, kinds := [], alts := [], laidByText := true, laidKinds := [.data, .data, .data, .data], laidTests := true, laidLooks := .later }
def IcmpComplains4UptoCardSaid : Prop := Claim7.holds Tryd.pinned (.plain (OpenSpec.upto icmpComplains4Spec)) icmpComplains4UptoCard

/-- THE SECOND FORM's CARD OF 'weirlaw8.IcmpComplains6'. -/
def icmpComplains6UptoCard : Claim7 := { stood := { row := icmpComplains6UptoRow, standIns := [], harness := (true, "9593c0c519557141a849cbb039a7fd46279e73c15ca365e96b8965bbaa8c4c57"), looks := false }, kinds := [], alts := [], laidByText := true, laidKinds := [.data, .data, .data, .data], laidTests := true, laidLooks := .later }
def IcmpComplains6UptoCardSaid : Prop := Claim7.holds Tryd.pinned (.plain (OpenSpec.upto icmpComplains6Spec)) icmpComplains6UptoCard

/-- THE SECOND FORM's CARD OF 'weirlaw8.IcmpQuiet'. -/
def icmpQuietUptoCard : Claim7 := { stood := { row := icmpQuietUptoRow, standIns := [], harness := (true, "9593c0c519557141a849cbb039a7fd46279e73c15ca365e96b8965bbaa8c4c57"), looks := false }, kinds := [], alts := [], laidByText := true, laidKinds := [.data, .data, .data, .data], laidTests := true, laidLooks := .later }
def IcmpQuietUptoCardSaid : Prop := Claim7.holds Tryd.pinned (.plain (OpenSpec.upto icmpQuietSpec)) icmpQuietUptoCard
end Rows
end Go.Proofs.YtjngdcilnipjcaaDoor
