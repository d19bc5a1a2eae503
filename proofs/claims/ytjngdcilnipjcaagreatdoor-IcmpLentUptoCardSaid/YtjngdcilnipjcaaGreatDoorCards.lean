/-
  DERIVED. GIVEN WITH THE SEED: THE CARDS: each row of YtjngdcilnipjcaaGreatDoorRows.lean that lists a variable, with what it lists TIED to the program's text (the seventh form; the later family's looks); each row that meets fmt, with fmt's text TOLD by the authors' own Lean function (tested against real Go, not proved from fmt's source: count such statements apart). THE CARD IS WHAT COUNTS. Prove the row's statement (the work); the ties are given (YtjngdcilnipjcaaGreatDoorTie.lean); close each card by the builder's one call (the guide's Derived/Test/ToyasCard.lean, 'card_holds'). Laid BY PROGRAM, IN A SANDBOX (cutbox-door.mjs). By AI agents, Wed Nov 11 2026. No macro, syntax, notation, axiom, sorry.
-/
import Derived.Test.YtjngdcilnipjcaaGreatDoorRows
import GoSem.ClaimSeven
namespace Go.Proofs.YtjngdcilnipjcaaGreatDoor
namespace Rows

/-- THE TIED CARD OF 'weirlaw8.IcmpLent'. -/
def icmpLentCard : Claim7 := { stood := { row := icmpLentRow, standIns := [], harness := (true, "31f8e1c38493f13f49fef67acae03e158316b98f03b516163d49de1f39a97828"), looks := false }, kinds := [], alts := [], laidByText := true, laidKinds := [.data, .data, .data, .data], laidTests := true, laidLooks := .later }
def IcmpLentCardSaid : Prop := Claim7.holds Tryz.pinned (.plain (OpenSpec.ofChange icmpLentSpec)) icmpLentCard

/-- THE SECOND FORM's CARD OF 'weirlaw8.IcmpLent'. -/
def icmpLentUptoCard : Claim7 := { stood := { row := icmpLentUptoRow, standIns := [], harness := (true, "31f8e1c38493f13f49fef67acae03e158316b98f03b516163d49de1f39a97828"), looks := false }, kinds := [], alts := [], laidByText := true, laidKinds := [.data, .data, .data, .data], laidTests := true, laidLooks := .later }
def IcmpLentUptoCardSaid : Prop := Claim7.holds Tryz.pinned (.plain (OpenSpec.upto icmpLentSpec)) icmpLentUptoCard
end Rows
end Go.Proofs.YtjngdcilnipjcaaGreatDoor
