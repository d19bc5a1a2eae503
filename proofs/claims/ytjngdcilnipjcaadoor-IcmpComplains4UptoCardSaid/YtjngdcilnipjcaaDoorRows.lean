/-
  NARROWER THAN 'FOR EVERY INPUT', by the rows' own cells (each row's printed sentence says how): IcmpNds: laid · IcmpNdPuts: laid · IcmpNdBack: laid · IcmpWrites: laid · IcmpParses: laid · IcmpBack: laid · IcmpAgain: laid · IcmpComplains4: laid · IcmpComplains6: laid · IcmpQuiet: laid.
  DERIVED. THE GIVEN ROWS OF THIS SEAT. 10 by the template 'for every input the law returns true; each argument reads behind the call as it read before'; 0 by the template 'total and deterministic' (their statements: YtjngdcilnipjcaaDoorTotals.lean).
  GIVEN WITH THE SEED: the statements are not yours to turn. If you find one false, say at which input.
  Laid BY PROGRAM, IN A SANDBOX (cutbox-rows.mjs): the forced cells as the released guide's own fill.sh prints them over the translation ce963357f27855ac… (all of the seat's roots in one cut). By AI agents, Wed Nov 11 2026. No macro, syntax, notation, axiom, sorry.
-/
import Derived.Test.YtjngdcilnipjcaaDoorChecked
import GoSem.Claim
import GoSem.ClaimJoined
import GoSem.ClaimMapViews
import Derived.JoinedTies
import Derived.KernelRfl
namespace Go.Proofs.YtjngdcilnipjcaaDoor
/- THE CELL 'sum', in the pinned program and in every row, IS THE sha256 OF THE DUMP (.gsa) THAT YtjngdcilnipjcaaDoorProg.lean LOADS. Nothing in Lean hashes anything: it is a label: what it is worth is what the hold of that sum in a sandbox is worth. -/
noncomputable def Tryd.pinned : Pinned := { name := "ytjngdcilnipjcaadoor", sum := "ce963357f27855ac4c74f1c3dee9b3810a819261d0f1ea89400f6265257c3b85", checked := Tryd.checked }
namespace Rows
def none {H : Type} : Left H := { results := [], args := [] }

/- WHAT THE LISTED PACKAGE-LEVEL VARIABLES READ AS WHEN THE CALL BEGINS. Each datum BY PROGRAM (the guide's laid-datum.mjs) off the statement by which the dump's own 'gosem.cut.vars' lays the variable. In a bare row this is a premise. The card (YtjngdcilnipjcaaDoorCards.lean) ties it to the program's text. -/
def laid_weir_addr_nets {H : Type} : DataW H := .agg [.agg [.lit (.int .i64 4), .agg [.lit (.int .u8 0), .lit (.int .u8 0), .lit (.int .u8 0), .lit (.int .u8 0), .lit (.int .u8 0), .lit (.int .u8 0), .lit (.int .u8 0), .lit (.int .u8 0), .lit (.int .u8 0), .lit (.int .u8 0), .lit (.int .u8 0), .lit (.int .u8 0), .lit (.int .u8 0), .lit (.int .u8 0), .lit (.int .u8 0), .lit (.int .u8 0)], .lit (.int .i64 32), .lit (.int .i64 1)], .agg [.lit (.int .i64 6), .agg [.lit (.int .u8 0), .lit (.int .u8 0), .lit (.int .u8 0), .lit (.int .u8 0), .lit (.int .u8 0), .lit (.int .u8 0), .lit (.int .u8 0), .lit (.int .u8 0), .lit (.int .u8 0), .lit (.int .u8 0), .lit (.int .u8 0), .lit (.int .u8 0), .lit (.int .u8 0), .lit (.int .u8 0), .lit (.int .u8 0), .lit (.int .u8 0)], .lit (.int .i64 128), .lit (.int .i64 1)], .agg [.lit (.int .i64 4), .agg [.lit (.int .u8 127), .lit (.int .u8 0), .lit (.int .u8 0), .lit (.int .u8 0), .lit (.int .u8 0), .lit (.int .u8 0), .lit (.int .u8 0), .lit (.int .u8 0), .lit (.int .u8 0), .lit (.int .u8 0), .lit (.int .u8 0), .lit (.int .u8 0), .lit (.int .u8 0), .lit (.int .u8 0), .lit (.int .u8 0), .lit (.int .u8 0)], .lit (.int .i64 8), .lit (.int .i64 2)], .agg [.lit (.int .i64 6), .agg [.lit (.int .u8 0), .lit (.int .u8 0), .lit (.int .u8 0), .lit (.int .u8 0), .lit (.int .u8 0), .lit (.int .u8 0), .lit (.int .u8 0), .lit (.int .u8 0), .lit (.int .u8 0), .lit (.int .u8 0), .lit (.int .u8 0), .lit (.int .u8 0), .lit (.int .u8 0), .lit (.int .u8 0), .lit (.int .u8 0), .lit (.int .u8 1)], .lit (.int .i64 128), .lit (.int .i64 2)], .agg [.lit (.int .i64 4), .agg [.lit (.int .u8 224), .lit (.int .u8 0), .lit (.int .u8 0), .lit (.int .u8 0), .lit (.int .u8 0), .lit (.int .u8 0), .lit (.int .u8 0), .lit (.int .u8 0), .lit (.int .u8 0), .lit (.int .u8 0), .lit (.int .u8 0), .lit (.int .u8 0), .lit (.int .u8 0), .lit (.int .u8 0), .lit (.int .u8 0), .lit (.int .u8 0)], .lit (.int .i64 4), .lit (.int .i64 3)], .agg [.lit (.int .i64 6), .agg [.lit (.int .u8 255), .lit (.int .u8 0), .lit (.int .u8 0), .lit (.int .u8 0), .lit (.int .u8 0), .lit (.int .u8 0), .lit (.int .u8 0), .lit (.int .u8 0), .lit (.int .u8 0), .lit (.int .u8 0), .lit (.int .u8 0), .lit (.int .u8 0), .lit (.int .u8 0), .lit (.int .u8 0), .lit (.int .u8 0), .lit (.int .u8 0)], .lit (.int .i64 8), .lit (.int .i64 3)], .agg [.lit (.int .i64 4), .agg [.lit (.int .u8 169), .lit (.int .u8 254), .lit (.int .u8 0), .lit (.int .u8 0), .lit (.int .u8 0), .lit (.int .u8 0), .lit (.int .u8 0), .lit (.int .u8 0), .lit (.int .u8 0), .lit (.int .u8 0), .lit (.int .u8 0), .lit (.int .u8 0), .lit (.int .u8 0), .lit (.int .u8 0), .lit (.int .u8 0), .lit (.int .u8 0)], .lit (.int .i64 16), .lit (.int .i64 4)], .agg [.lit (.int .i64 6), .agg [.lit (.int .u8 254), .lit (.int .u8 128), .lit (.int .u8 0), .lit (.int .u8 0), .lit (.int .u8 0), .lit (.int .u8 0), .lit (.int .u8 0), .lit (.int .u8 0), .lit (.int .u8 0), .lit (.int .u8 0), .lit (.int .u8 0), .lit (.int .u8 0), .lit (.int .u8 0), .lit (.int .u8 0), .lit (.int .u8 0), .lit (.int .u8 0)], .lit (.int .i64 10), .lit (.int .i64 4)], .agg [.lit (.int .i64 4), .agg [.lit (.int .u8 255), .lit (.int .u8 255), .lit (.int .u8 255), .lit (.int .u8 255), .lit (.int .u8 0), .lit (.int .u8 0), .lit (.int .u8 0), .lit (.int .u8 0), .lit (.int .u8 0), .lit (.int .u8 0), .lit (.int .u8 0), .lit (.int .u8 0), .lit (.int .u8 0), .lit (.int .u8 0), .lit (.int .u8 0), .lit (.int .u8 0)], .lit (.int .i64 32), .lit (.int .i64 5)], .agg [.lit (.int .i64 4), .agg [.lit (.int .u8 0), .lit (.int .u8 0), .lit (.int .u8 0), .lit (.int .u8 0), .lit (.int .u8 0), .lit (.int .u8 0), .lit (.int .u8 0), .lit (.int .u8 0), .lit (.int .u8 0), .lit (.int .u8 0), .lit (.int .u8 0), .lit (.int .u8 0), .lit (.int .u8 0), .lit (.int .u8 0), .lit (.int .u8 0), .lit (.int .u8 0)], .lit (.int .i64 8), .lit (.int .i64 6)], .agg [.lit (.int .i64 4), .agg [.lit (.int .u8 240), .lit (.int .u8 0), .lit (.int .u8 0), .lit (.int .u8 0), .lit (.int .u8 0), .lit (.int .u8 0), .lit (.int .u8 0), .lit (.int .u8 0), .lit (.int .u8 0), .lit (.int .u8 0), .lit (.int .u8 0), .lit (.int .u8 0), .lit (.int .u8 0), .lit (.int .u8 0), .lit (.int .u8 0), .lit (.int .u8 0)], .lit (.int .i64 4), .lit (.int .i64 6)], .agg [.lit (.int .i64 6), .agg [.lit (.int .u8 0), .lit (.int .u8 0), .lit (.int .u8 0), .lit (.int .u8 0), .lit (.int .u8 0), .lit (.int .u8 0), .lit (.int .u8 0), .lit (.int .u8 0), .lit (.int .u8 0), .lit (.int .u8 0), .lit (.int .u8 0), .lit (.int .u8 0), .lit (.int .u8 0), .lit (.int .u8 0), .lit (.int .u8 0), .lit (.int .u8 0)], .lit (.int .i64 8), .lit (.int .i64 6)]]
def laid_weir_ip4_widths {H : Type} : DataW H := .agg [.lit (.int .i64 4), .lit (.int .i64 4), .lit (.int .i64 8), .lit (.int .i64 16), .lit (.int .i64 16), .lit (.int .i64 1), .lit (.int .i64 1), .lit (.int .i64 1), .lit (.int .i64 13), .lit (.int .i64 8), .lit (.int .i64 8), .lit (.int .i64 16)]
def laid_weir_ip6_known {H : Type} : DataW H := .agg [.agg [.lit (.int .i64 0), .lit (.int .i64 1)], .agg [.lit (.int .i64 43), .lit (.int .i64 2)], .agg [.lit (.int .i64 44), .lit (.int .i64 3)], .agg [.lit (.int .i64 60), .lit (.int .i64 1)]]
def laid_weir_icmp_troubles {H : Type} : DataW H := .slice [.agg [.lit (.int .i64 0), .lit (.int .i64 0), .lit (.int .i64 0), .lit (.int .i64 0), .lit (.int .i64 0), .lit (.int .i64 0), .lit (.int .i64 0)], .agg [.lit (.int .i64 3), .lit (.int .i64 0), .lit (.int .i64 1), .lit (.int .i64 0), .lit (.int .i64 0), .lit (.int .i64 0), .lit (.int .i64 0)], .agg [.lit (.int .i64 3), .lit (.int .i64 1), .lit (.int .i64 1), .lit (.int .i64 3), .lit (.int .i64 0), .lit (.int .i64 0), .lit (.int .i64 0)], .agg [.lit (.int .i64 3), .lit (.int .i64 13), .lit (.int .i64 1), .lit (.int .i64 1), .lit (.int .i64 0), .lit (.int .i64 0), .lit (.int .i64 0)], .agg [.lit (.int .i64 3), .lit (.int .i64 4), .lit (.int .i64 2), .lit (.int .i64 0), .lit (.int .i64 65535), .lit (.int .i64 65535), .lit (.int .i64 0)], .agg [.lit (.int .i64 11), .lit (.int .i64 0), .lit (.int .i64 3), .lit (.int .i64 0), .lit (.int .i64 0), .lit (.int .i64 0), .lit (.int .i64 0)], .agg [.lit (.int .i64 11), .lit (.int .i64 1), .lit (.int .i64 3), .lit (.int .i64 1), .lit (.int .i64 0), .lit (.int .i64 0), .lit (.int .i64 0)], .agg [.lit (.int .i64 12), .lit (.int .i64 0), .lit (.int .i64 4), .lit (.int .i64 0), .lit (.int .i64 255), .lit (.int .i64 65535), .lit (.int .i64 24)]] []

/-- 'weirlaw8.IcmpNds': WHATEVER THE INPUT: true; the input reads as it did. -/
def icmpNdsSpec : ChangeSpec := { name := "icmpNds", fn := fun _ => fun
  | [d] => { results := [.lit (.bool true)], args := [d] }
  | _ => none }
def icmpNdsRow : OpenClaim := { program := "ytjngdcilnipjcaadoor", sum := "ce963357f27855ac4c74f1c3dee9b3810a819261d0f1ea89400f6265257c3b85", func := "weir/weirlaw8.IcmpNds", spec := "icmpNds", unfollowed := true, recurses := true, named := ["weir/addr.nets"], apart := false, laid := [("weir/addr.nets", laid_weir_addr_nets)] }
def IcmpNdsSaid : Prop := icmpNdsRow.holds Tryd.pinned (OpenSpec.ofChange icmpNdsSpec)

/-- ITS FALSE NEIGHBOUR: 'it returns false'. Refute it at one input. -/
def icmpNdsWrong : ChangeSpec := { name := "icmpNds", fn := fun _ => fun
  | [d] => { results := [.lit (.bool false)], args := [d] }
  | _ => none }
def IcmpNdsWrongFalsely : Prop := icmpNdsRow.holds Tryd.pinned (OpenSpec.ofChange icmpNdsWrong)

/-- 'weirlaw8.IcmpNdPuts': WHATEVER THE INPUT: true; the input reads as it did. -/
def icmpNdPutsSpec : ChangeSpec := { name := "icmpNdPuts", fn := fun _ => fun
  | [d] => { results := [.lit (.bool true)], args := [d] }
  | _ => none }
def icmpNdPutsRow : OpenClaim := { program := "ytjngdcilnipjcaadoor", sum := "ce963357f27855ac4c74f1c3dee9b3810a819261d0f1ea89400f6265257c3b85", func := "weir/weirlaw8.IcmpNdPuts", spec := "icmpNdPuts", unfollowed := true, recurses := true, named := ["weir/addr.nets"], apart := false, laid := [("weir/addr.nets", laid_weir_addr_nets)] }
def IcmpNdPutsSaid : Prop := icmpNdPutsRow.holds Tryd.pinned (OpenSpec.ofChange icmpNdPutsSpec)

/-- ITS FALSE NEIGHBOUR: 'it returns false'. Refute it at one input. -/
def icmpNdPutsWrong : ChangeSpec := { name := "icmpNdPuts", fn := fun _ => fun
  | [d] => { results := [.lit (.bool false)], args := [d] }
  | _ => none }
def IcmpNdPutsWrongFalsely : Prop := icmpNdPutsRow.holds Tryd.pinned (OpenSpec.ofChange icmpNdPutsWrong)

/-- 'weirlaw8.IcmpNdBack': WHATEVER THE INPUT: true; the input reads as it did. -/
def icmpNdBackSpec : ChangeSpec := { name := "icmpNdBack", fn := fun _ => fun
  | [d1, d2] => { results := [.lit (.bool true)], args := [d1, d2] }
  | _ => none }
def icmpNdBackRow : OpenClaim := { program := "ytjngdcilnipjcaadoor", sum := "ce963357f27855ac4c74f1c3dee9b3810a819261d0f1ea89400f6265257c3b85", func := "weir/weirlaw8.IcmpNdBack", spec := "icmpNdBack", unfollowed := true, recurses := true, named := ["weir/addr.nets"], apart := false, laid := [("weir/addr.nets", laid_weir_addr_nets)] }
def IcmpNdBackSaid : Prop := icmpNdBackRow.holds Tryd.pinned (OpenSpec.ofChange icmpNdBackSpec)

/-- ITS FALSE NEIGHBOUR: 'it returns false'. Refute it at one input. -/
def icmpNdBackWrong : ChangeSpec := { name := "icmpNdBack", fn := fun _ => fun
  | [d1, d2] => { results := [.lit (.bool false)], args := [d1, d2] }
  | _ => none }
def IcmpNdBackWrongFalsely : Prop := icmpNdBackRow.holds Tryd.pinned (OpenSpec.ofChange icmpNdBackWrong)

/-- 'weirlaw8.IcmpWrites': WHATEVER THE INPUT: true; the input reads as it did. -/
def icmpWritesSpec : ChangeSpec := { name := "icmpWrites", fn := fun _ => fun
  | [d1, d2, d3] => { results := [.lit (.bool true)], args := [d1, d2, d3] }
  | _ => none }
def icmpWritesRow : OpenClaim := { program := "ytjngdcilnipjcaadoor", sum := "ce963357f27855ac4c74f1c3dee9b3810a819261d0f1ea89400f6265257c3b85", func := "weir/weirlaw8.IcmpWrites", spec := "icmpWrites", unfollowed := true, recurses := true, named := ["weir/addr.nets"], apart := false, laid := [("weir/addr.nets", laid_weir_addr_nets)] }
def IcmpWritesSaid : Prop := icmpWritesRow.holds Tryd.pinned (OpenSpec.ofChange icmpWritesSpec)

/-- ITS FALSE NEIGHBOUR: 'it returns false'. Refute it at one input. -/
def icmpWritesWrong : ChangeSpec := { name := "icmpWrites", fn := fun _ => fun
  | [d1, d2, d3] => { results := [.lit (.bool false)], args := [d1, d2, d3] }
  | _ => none }
def IcmpWritesWrongFalsely : Prop := icmpWritesRow.holds Tryd.pinned (OpenSpec.ofChange icmpWritesWrong)

/-- 'weirlaw8.IcmpParses': WHATEVER THE INPUT: true; the input reads as it did. -/
def icmpParsesSpec : ChangeSpec := { name := "icmpParses", fn := fun _ => fun
  | [d1, d2, d3, d4] => { results := [.lit (.bool true)], args := [d1, d2, d3, d4] }
  | _ => none }
def icmpParsesRow : OpenClaim := { program := "ytjngdcilnipjcaadoor", sum := "ce963357f27855ac4c74f1c3dee9b3810a819261d0f1ea89400f6265257c3b85", func := "weir/weirlaw8.IcmpParses", spec := "icmpParses", unfollowed := true, recurses := true, named := ["weir/addr.nets"], apart := false, laid := [("weir/addr.nets", laid_weir_addr_nets)] }
def IcmpParsesSaid : Prop := icmpParsesRow.holds Tryd.pinned (OpenSpec.ofChange icmpParsesSpec)

/-- ITS FALSE NEIGHBOUR: 'it returns false'. Refute it at one input. -/
def icmpParsesWrong : ChangeSpec := { name := "icmpParses", fn := fun _ => fun
  | [d1, d2, d3, d4] => { results := [.lit (.bool false)], args := [d1, d2, d3, d4] }
  | _ => none }
def IcmpParsesWrongFalsely : Prop := icmpParsesRow.holds Tryd.pinned (OpenSpec.ofChange icmpParsesWrong)

/-- 'weirlaw8.IcmpBack': WHATEVER THE INPUT: true; the input reads as it did. -/
def icmpBackSpec : ChangeSpec := { name := "icmpBack", fn := fun _ => fun
  | [d1, d2, d3, d4, d5] => { results := [.lit (.bool true)], args := [d1, d2, d3, d4, d5] }
  | _ => none }
def icmpBackRow : OpenClaim := { program := "ytjngdcilnipjcaadoor", sum := "ce963357f27855ac4c74f1c3dee9b3810a819261d0f1ea89400f6265257c3b85", func := "weir/weirlaw8.IcmpBack", spec := "icmpBack", unfollowed := true, recurses := true, named := ["weir/addr.nets"], apart := false, laid := [("weir/addr.nets", laid_weir_addr_nets)] }
def IcmpBackSaid : Prop := icmpBackRow.holds Tryd.pinned (OpenSpec.ofChange icmpBackSpec)

/-- ITS FALSE NEIGHBOUR: 'it returns false'. Refute it at one input. -/
def icmpBackWrong : ChangeSpec := { name := "icmpBack", fn := fun _ => fun
  | [d1, d2, d3, d4, d5] => { results := [.lit (.bool false)], args := [d1, d2, d3, d4, d5] }
  | _ => none }
def IcmpBackWrongFalsely : Prop := icmpBackRow.holds Tryd.pinned (OpenSpec.ofChange icmpBackWrong)

/-- 'weirlaw8.IcmpAgain': WHATEVER THE INPUT: true; the input reads as it did. -/
def icmpAgainSpec : ChangeSpec := { name := "icmpAgain", fn := fun _ => fun
  | [d1, d2, d3, d4, d5, d6] => { results := [.lit (.bool true)], args := [d1, d2, d3, d4, d5, d6] }
  | _ => none }
def icmpAgainRow : OpenClaim := { program := "ytjngdcilnipjcaadoor", sum := "ce963357f27855ac4c74f1c3dee9b3810a819261d0f1ea89400f6265257c3b85", func := "weir/weirlaw8.IcmpAgain", spec := "icmpAgain", unfollowed := true, recurses := true, named := ["weir/addr.nets"], apart := false, laid := [("weir/addr.nets", laid_weir_addr_nets)] }
def IcmpAgainSaid : Prop := icmpAgainRow.holds Tryd.pinned (OpenSpec.ofChange icmpAgainSpec)

/-- ITS FALSE NEIGHBOUR: 'it returns false'. Refute it at one input. -/
def icmpAgainWrong : ChangeSpec := { name := "icmpAgain", fn := fun _ => fun
  | [d1, d2, d3, d4, d5, d6] => { results := [.lit (.bool false)], args := [d1, d2, d3, d4, d5, d6] }
  | _ => none }
def IcmpAgainWrongFalsely : Prop := icmpAgainRow.holds Tryd.pinned (OpenSpec.ofChange icmpAgainWrong)

/-- 'weirlaw8.IcmpComplains4': WHATEVER THE INPUT: true; the input reads as it did. -/
def icmpComplains4Spec : ChangeSpec := { name := "icmpComplains4", fn := fun _ => fun
  | [d1, d2] => { results := [.lit (.bool true)], args := [d1, d2] }
  | _ => none }
def icmpComplains4Row : OpenClaim := { program := "ytjngdcilnipjcaadoor", sum := "ce963357f27855ac4c74f1c3dee9b3810a819261d0f1ea89400f6265257c3b85", func := "weir/weirlaw8.IcmpComplains4", spec := "icmpComplains4", inPlace := ["internal/bytealg.MakeNoZero"], named := ["weir/icmp.troubles", "weir/ip4.widths", "weir/addr.nets", "weir/ip6.known"], apart := false, laid := [("weir/addr.nets", laid_weir_addr_nets), ("weir/ip4.widths", laid_weir_ip4_widths), ("weir/ip6.known", laid_weir_ip6_known), ("weir/icmp.troubles", laid_weir_icmp_troubles)] }
def IcmpComplains4Said : Prop := icmpComplains4Row.holds Tryd.pinned (OpenSpec.ofChange icmpComplains4Spec)

/-- ITS FALSE NEIGHBOUR: 'it returns false'. Refute it at one input. -/
def icmpComplains4Wrong : ChangeSpec := { name := "icmpComplains4", fn := fun _ => fun
  | [d1, d2] => { results := [.lit (.bool false)], args := [d1, d2] }
  | _ => none }
def IcmpComplains4WrongFalsely : Prop := icmpComplains4Row.holds Tryd.pinned (OpenSpec.ofChange icmpComplains4Wrong)

/-- 'weirlaw8.IcmpComplains6': WHATEVER THE INPUT: true; the input reads as it did. -/
def icmpComplains6Spec : ChangeSpec := { name := "icmpComplains6", fn := fun _ => fun
  | [d1, d2] => { results := [.lit (.bool true)], args := [d1, d2] }
  | _ => none }
def icmpComplains6Row : OpenClaim := { program := "ytjngdcilnipjcaadoor", sum := "ce963357f27855ac4c74f1c3dee9b3810a819261d0f1ea89400f6265257c3b85", func := "weir/weirlaw8.IcmpComplains6", spec := "icmpComplains6", inPlace := ["internal/bytealg.MakeNoZero"], named := ["weir/icmp.troubles", "weir/ip4.widths", "weir/addr.nets", "weir/ip6.known"], apart := false, laid := [("weir/addr.nets", laid_weir_addr_nets), ("weir/ip4.widths", laid_weir_ip4_widths), ("weir/ip6.known", laid_weir_ip6_known), ("weir/icmp.troubles", laid_weir_icmp_troubles)] }
def IcmpComplains6Said : Prop := icmpComplains6Row.holds Tryd.pinned (OpenSpec.ofChange icmpComplains6Spec)

/-- ITS FALSE NEIGHBOUR: 'it returns false'. Refute it at one input. -/
def icmpComplains6Wrong : ChangeSpec := { name := "icmpComplains6", fn := fun _ => fun
  | [d1, d2] => { results := [.lit (.bool false)], args := [d1, d2] }
  | _ => none }
def IcmpComplains6WrongFalsely : Prop := icmpComplains6Row.holds Tryd.pinned (OpenSpec.ofChange icmpComplains6Wrong)

/-- 'weirlaw8.IcmpQuiet': WHATEVER THE INPUT: true; the input reads as it did. -/
def icmpQuietSpec : ChangeSpec := { name := "icmpQuiet", fn := fun _ => fun
  | [d1, d2, d3, d4] => { results := [.lit (.bool true)], args := [d1, d2, d3, d4] }
  | _ => none }
def icmpQuietRow : OpenClaim := { program := "ytjngdcilnipjcaadoor", sum := "ce963357f27855ac4c74f1c3dee9b3810a819261d0f1ea89400f6265257c3b85", func := "weir/weirlaw8.IcmpQuiet", spec := "icmpQuiet", inPlace := ["internal/bytealg.MakeNoZero"], named := ["weir/icmp.troubles", "weir/ip4.widths", "weir/addr.nets", "weir/ip6.known"], apart := false, laid := [("weir/addr.nets", laid_weir_addr_nets), ("weir/ip4.widths", laid_weir_ip4_widths), ("weir/ip6.known", laid_weir_ip6_known), ("weir/icmp.troubles", laid_weir_icmp_troubles)] }
def IcmpQuietSaid : Prop := icmpQuietRow.holds Tryd.pinned (OpenSpec.ofChange icmpQuietSpec)

/-- ITS FALSE NEIGHBOUR: 'it returns false'. Refute it at one input. -/
def icmpQuietWrong : ChangeSpec := { name := "icmpQuiet", fn := fun _ => fun
  | [d1, d2, d3, d4] => { results := [.lit (.bool false)], args := [d1, d2, d3, d4] }
  | _ => none }
def IcmpQuietWrongFalsely : Prop := icmpQuietRow.holds Tryd.pinned (OpenSpec.ofChange icmpQuietWrong)

/- THE SECOND FORM. 'bulk': how many values and letters a reading holds, each counted each time it is reached (what is shared counts as often as it is met; a slice's spare places count too). A statement '..UptoSaid' is the law's where the arguments, and the package variables that the reading takes, are together of bulk at most 1048576: NARROWER than '..Said'. Prove '..Said' where nothing that the law and all that it calls make is longer than what came in: it says more and counts as full. Else prove '..UptoSaid'. A law counts once. -/
mutual
def uptoBulk {H : Type} : DataW H → Nat
  | .lit (.string bytes) => bytes.length + 1
  | .lit _ => 1
  | .nil => 1
  | .ptr d => uptoBulk d + 1
  | .slice elems spare => uptoBulkAll elems + uptoBulkAll spare + 1
  | .agg parts => uptoBulkAll parts + 1
  | .iface _ d => uptoBulk d + 1
  | .map entries => uptoBulkEntries entries + 1
  | .held _ => 1
def uptoBulkAll {H : Type} : List (DataW H) → Nat
  | [] => 0
  | d :: r => uptoBulk d + uptoBulkAll r
def uptoBulkEntries {H : Type} : List (Lit × DataW H) → Nat
  | [] => 0
  | x :: r => uptoBulkEntry x + uptoBulkEntries r
def uptoBulkEntry {H : Type} : Lit × DataW H → Nat
  | (.string bytes, d) => bytes.length + uptoBulk d + 1
  | (_, d) => uptoBulk d + 1
 end
def uptoSmall : (H : Type) → List (DataW H) → Bool := fun _ ds => decide (uptoBulkAll ds ≤ 1048576)
def OpenSpec.upto (s : _root_.Go.ChangeSpec) : _root_.Go.OpenSpec := { _root_.Go.OpenSpec.ofChange s with cond := some uptoSmall }

/-- 'weirlaw8.IcmpNds', WHERE WHAT IT READS IS OF BULK AT MOST 1048576: true; the input reads as it did. -/
def icmpNdsUptoRow : OpenClaim := { program := "ytjngdcilnipjcaadoor", sum := "ce963357f27855ac4c74f1c3dee9b3810a819261d0f1ea89400f6265257c3b85", func := "weir/weirlaw8.IcmpNds", spec := "icmpNds", unfollowed := true, recurses := true, named := ["weir/addr.nets"], apart := false, laid := [("weir/addr.nets", laid_weir_addr_nets)], narrowed := true }
def IcmpNdsUptoSaid : Prop := icmpNdsUptoRow.holds Tryd.pinned (OpenSpec.upto icmpNdsSpec)

/-- 'weirlaw8.IcmpNdPuts', WHERE WHAT IT READS IS OF BULK AT MOST 1048576: true; the input reads as it did. -/
def icmpNdPutsUptoRow : OpenClaim := { program := "ytjngdcilnipjcaadoor", sum := "ce963357f27855ac4c74f1c3dee9b3810a819261d0f1ea89400f6265257c3b85", func := "weir/weirlaw8.IcmpNdPuts", spec := "icmpNdPuts", unfollowed := true, recurses := true, named := ["weir/addr.nets"], apart := false, laid := [("weir/addr.nets", laid_weir_addr_nets)], narrowed := true }
def IcmpNdPutsUptoSaid : Prop := icmpNdPutsUptoRow.holds Tryd.pinned (OpenSpec.upto icmpNdPutsSpec)

/-- 'weirlaw8.IcmpNdBack', WHERE WHAT IT READS IS OF BULK AT MOST 1048576: true; the input reads as it did. -/
def icmpNdBackUptoRow : OpenClaim := { program := "ytjngdcilnipjcaadoor", sum := "ce963357f27855ac4c74f1c3dee9b3810a819261d0f1ea89400f6265257c3b85", func := "weir/weirlaw8.IcmpNdBack", spec := "icmpNdBack", unfollowed := true, recurses := true, named := ["weir/addr.nets"], apart := false, laid := [("weir/addr.nets", laid_weir_addr_nets)], narrowed := true }
def IcmpNdBackUptoSaid : Prop := icmpNdBackUptoRow.holds Tryd.pinned (OpenSpec.upto icmpNdBackSpec)

/-- 'weirlaw8.IcmpWrites', WHERE WHAT IT READS IS OF BULK AT MOST 1048576: true; the input reads as it did. -/
def icmpWritesUptoRow : OpenClaim := { program := "ytjngdcilnipjcaadoor", sum := "ce963357f27855ac4c74f1c3dee9b3810a819261d0f1ea89400f6265257c3b85", func := "weir/weirlaw8.IcmpWrites", spec := "icmpWrites", unfollowed := true, recurses := true, named := ["weir/addr.nets"], apart := false, laid := [("weir/addr.nets", laid_weir_addr_nets)], narrowed := true }
def IcmpWritesUptoSaid : Prop := icmpWritesUptoRow.holds Tryd.pinned (OpenSpec.upto icmpWritesSpec)

/-- 'weirlaw8.IcmpParses', WHERE WHAT IT READS IS OF BULK AT MOST 1048576: true; the input reads as it did. -/
def icmpParsesUptoRow : OpenClaim := { program := "ytjngdcilnipjcaadoor", sum := "ce963357f27855ac4c74f1c3dee9b3810a819261d0f1ea89400f6265257c3b85", func := "weir/weirlaw8.IcmpParses", spec := "icmpParses", unfollowed := true, recurses := true, named := ["weir/addr.nets"], apart := false, laid := [("weir/addr.nets", laid_weir_addr_nets)], narrowed := true }
def IcmpParsesUptoSaid : Prop := icmpParsesUptoRow.holds Tryd.pinned (OpenSpec.upto icmpParsesSpec)

/-- 'weirlaw8.IcmpBack', WHERE WHAT IT READS IS OF BULK AT MOST 1048576: true; the input reads as it did. -/
def icmpBackUptoRow : OpenClaim := { program := "ytjngdcilnipjcaadoor", sum := "ce963357f27855ac4c74f1c3dee9b3810a819261d0f1ea89400f6265257c3b85", func := "weir/weirlaw8.IcmpBack", spec := "icmpBack", unfollowed := true, recurses := true, named := ["weir/addr.nets"], apart := false, laid := [("weir/addr.nets", laid_weir_addr_nets)], narrowed := true }
def IcmpBackUptoSaid : Prop := icmpBackUptoRow.holds Tryd.pinned (OpenSpec.upto icmpBackSpec)

/-- 'weirlaw8.IcmpAgain', WHERE WHAT IT READS IS OF BULK AT MOST 1048576: true; the input reads as it did. -/
def icmpAgainUptoRow : OpenClaim := { program := "ytjngdcilnipjcaadoor", sum := "ce963357f27855ac4c74f1c3dee9b3810a819261d0f1ea89400f6265257c3b85", func := "weir/weirlaw8.IcmpAgain", spec := "icmpAgain", unfollowed := true, recurses := true, named := ["weir/addr.nets"], apart := false, laid := [("weir/addr.nets", laid_weir_addr_nets)], narrowed := true }
def IcmpAgainUptoSaid : Prop := icmpAgainUptoRow.holds Tryd.pinned (OpenSpec.upto icmpAgainSpec)

/-- 'weirlaw8.IcmpComplains4', WHERE WHAT IT READS IS OF BULK AT MOST 1048576: true; the input reads as it did. -/
def icmpComplains4UptoRow : OpenClaim := { program := "ytjngdcilnipjcaadoor", sum := "ce963357f27855ac4c74f1c3dee9b3810a819261d0f1ea89400f6265257c3b85", func := "weir/weirlaw8.IcmpComplains4", spec := "icmpComplains4", inPlace := ["internal/bytealg.MakeNoZero"], named := ["weir/icmp.troubles", "weir/ip4.widths", "weir/addr.nets", "weir/ip6.known"], apart := false, laid := [("weir/addr.nets", laid_weir_addr_nets), ("weir/ip4.widths", laid_weir_ip4_widths), ("weir/ip6.known", laid_weir_ip6_known), ("weir/icmp.troubles", laid_weir_icmp_troubles)], narrowed := true }
def IcmpComplains4UptoSaid : Prop := icmpComplains4UptoRow.holds Tryd.pinned (OpenSpec.upto icmpComplains4Spec)

/-- 'weirlaw8.IcmpComplains6', WHERE WHAT IT READS IS OF BULK AT MOST 1048576: true; the input reads as it did. -/
def icmpComplains6UptoRow : OpenClaim := { program := "ytjngdcilnipjcaadoor", sum := "ce963357f27855ac4c74f1c3dee9b3810a819261d0f1ea89400f6265257c3b85", func := "weir/weirlaw8.IcmpComplains6", spec := "icmpComplains6", inPlace := ["internal/bytealg.MakeNoZero"], named := ["weir/icmp.troubles", "weir/ip4.widths", "weir/addr.nets", "weir/ip6.known"], apart := false, laid := [("weir/addr.nets", laid_weir_addr_nets), ("weir/ip4.widths", laid_weir_ip4_widths), ("weir/ip6.known", laid_weir_ip6_known), ("weir/icmp.troubles", laid_weir_icmp_troubles)], narrowed := true }
def IcmpComplains6UptoSaid : Prop := icmpComplains6UptoRow.holds Tryd.pinned (OpenSpec.upto icmpComplains6Spec)

/-- 'weirlaw8.IcmpQuiet', WHERE WHAT IT READS IS OF BULK AT MOST 1048576: true; the input reads as it did. -/
def icmpQuietUptoRow : OpenClaim := { program := "ytjngdcilnipjcaadoor", sum := "ce963357f27855ac4c74f1c3dee9b3810a819261d0f1ea89400f6265257c3b85", func := "weir/weirlaw8.IcmpQuiet", spec := "icmpQuiet", inPlace := ["internal/bytealg.MakeNoZero"], named := ["weir/icmp.troubles", "weir/ip4.widths", "weir/addr.nets", "weir/ip6.known"], apart := false, laid := [("weir/addr.nets", laid_weir_addr_nets), ("weir/ip4.widths", laid_weir_ip4_widths), ("weir/ip6.known", laid_weir_ip6_known), ("weir/icmp.troubles", laid_weir_icmp_troubles)], narrowed := true }
def IcmpQuietUptoSaid : Prop := icmpQuietUptoRow.holds Tryd.pinned (OpenSpec.upto icmpQuietSpec)

end Rows
end Go.Proofs.YtjngdcilnipjcaaDoor
