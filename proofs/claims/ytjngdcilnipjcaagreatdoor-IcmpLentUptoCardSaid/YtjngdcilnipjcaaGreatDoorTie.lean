/-
  DERIVED. GIVEN WITH THE SEED: THE PROGRAM's TIES (one call each: nine closed facts by the kernel) AND EACH ROW's TIE, after the 31st guide's Derived/Test/Toyas{Tie, Card}.lean. No idea stands in it: it is a product of the set-up. Laid BY PROGRAM, IN A SANDBOX (cutbox-door.mjs). By AI agents, Wed Nov 11 2026. No macro, syntax, notation, axiom, sorry.
-/
import Derived.Test.YtjngdcilnipjcaaGreatDoorRows
import Derived.LaidByTextLater
import Derived.SevenTiedAt
import Derived.LaidSub
import Derived.LaidOnce
namespace Go.Proofs.YtjngdcilnipjcaaGreatDoor
open Go
set_option maxRecDepth 100000
theorem seatTie1 : Tryz.prog.laidByTextLater [("weir/addr.nets", Rows.laid_weir_addr_nets), ("weir/ip4.widths", Rows.laid_weir_ip4_widths), ("weir/ip6.known", Rows.laid_weir_ip6_known), ("weir/icmp.troubles", Rows.laid_weir_icmp_troubles)] [.data, .data, .data, .data] true :=
  Program.laidByTextLater_by_one 64 8 229 (by kernel_rfl) (by kernel_rfl) (by kernel_rfl) (by kernel_rfl) (by kernel_rfl) (by kernel_rfl) (fun _ _ => by kernel_rfl)
theorem noOwnUnsafe : Tryz.pinned.checked.prog.headLifts.contains "ownunsafe" = false := by kernel_rfl
theorem tie : Tryz.prog.laidByTextLater [("weir/addr.nets", Rows.laid_weir_addr_nets), ("weir/ip4.widths", Rows.laid_weir_ip4_widths), ("weir/ip6.known", Rows.laid_weir_ip6_known), ("weir/icmp.troubles", Rows.laid_weir_icmp_troubles)] [.data, .data, .data, .data] true :=
  Program.laidByTextLater.sub seatTie1 ["weir/addr.nets", "weir/ip4.widths", "weir/ip6.known", "weir/icmp.troubles"] (by kernel_rfl) (by kernel_rfl)
theorem icmpLent_row_tie : Rows.icmpLentRow.laidByTextAt .later Tryz.pinned [.data, .data, .data, .data] true :=
  OpenClaim.laidByTextAt_later rfl rfl tie noOwnUnsafe
theorem icmpLentUpto_row_tie : Rows.icmpLentUptoRow.laidByTextAt .later Tryz.pinned [.data, .data, .data, .data] true :=
  OpenClaim.laidByTextAt_later rfl rfl tie noOwnUnsafe
end Go.Proofs.YtjngdcilnipjcaaGreatDoor
