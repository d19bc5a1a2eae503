/-
  NARROWER THAN 'FOR EVERY INPUT', by the rows' own cells (each row's printed sentence says how): SplitWhole4: laid · SplitTwice: laid · SplitOwn: laid · SplitFour: laid · SplitSix: laid · SplitMay6: laid · SplitAgain: laid · SplitMay4: laid · SplitWhole6: laid.
  DERIVED. THE GIVEN ROWS OF THIS SEAT. 9 by the template 'for every input the law returns true; each argument reads behind the call as it read before'; 0 by the template 'total and deterministic' (their statements: YteppichfkeknbaaDoorTotals.lean).
  GIVEN WITH THE SEED: the statements are not yours to turn. If you find one false, say at which input.
  Laid BY PROGRAM, IN A SANDBOX (cutbox-rows.mjs): the forced cells as the released guide's own fill.sh prints them over the translation 8510a9ad2b42354b… (all of the seat's roots in one cut). By AI agents, Wed Nov 11 2026. No macro, syntax, notation, axiom, sorry.
-/
import Derived.Test.YteppichfkeknbaaDoorChecked
import GoSem.Claim
import GoSem.ClaimJoined
import GoSem.ClaimMapViews
import Derived.JoinedTies
import Derived.KernelRfl
namespace Go.Proofs.YteppichfkeknbaaDoor
/- THE CELL 'sum', in the pinned program and in every row, IS THE sha256 OF THE DUMP (.gsa) THAT YteppichfkeknbaaDoorProg.lean LOADS. Nothing in Lean hashes anything: it is a label: what it is worth is what the hold of that sum in a sandbox is worth. -/
noncomputable def Tryd.pinned : Pinned := { name := "yteppichfkeknbaadoor", sum := "8510a9ad2b42354bd3b58274862538acd1e4308845593f993d950c688fddfbc1", checked := Tryd.checked }
namespace Rows
def none {H : Type} : Left H := { results := [], args := [] }

/- WHAT THE LISTED PACKAGE-LEVEL VARIABLES READ AS WHEN THE CALL BEGINS. Each datum BY PROGRAM (the guide's laid-datum.mjs) off the statement by which the dump's own 'gosem.cut.vars' lays the variable. In a bare row this is a premise. The card (YteppichfkeknbaaDoorCards.lean) ties it to the program's text. -/
def laid_weir_ip6_known {H : Type} : DataW H := .agg [.agg [.lit (.int .i64 0), .lit (.int .i64 1)], .agg [.lit (.int .i64 43), .lit (.int .i64 2)], .agg [.lit (.int .i64 44), .lit (.int .i64 3)], .agg [.lit (.int .i64 60), .lit (.int .i64 1)]]
def laid_weir_ip4_widths {H : Type} : DataW H := .agg [.lit (.int .i64 4), .lit (.int .i64 4), .lit (.int .i64 8), .lit (.int .i64 16), .lit (.int .i64 16), .lit (.int .i64 1), .lit (.int .i64 1), .lit (.int .i64 1), .lit (.int .i64 13), .lit (.int .i64 8), .lit (.int .i64 8), .lit (.int .i64 16)]

/-- 'weirlaw13.SplitWhole4': WHATEVER THE INPUT: true; the input reads as it did. -/
def splitWhole4Spec : ChangeSpec := { name := "splitWhole4", fn := fun _ => fun
  | [d1, d2] => { results := [.lit (.bool true)], args := [d1, d2] }
  | _ => none }
def splitWhole4Row : OpenClaim := { program := "yteppichfkeknbaadoor", sum := "8510a9ad2b42354bd3b58274862538acd1e4308845593f993d950c688fddfbc1", func := "weir/weirlaw13.SplitWhole4", spec := "splitWhole4", inPlace := ["internal/bytealg.MakeNoZero"], unfollowed := true, recurses := true, named := ["weir/ip6.known"], apart := false, laid := [("weir/ip6.known", laid_weir_ip6_known)] }
def SplitWhole4Said : Prop := splitWhole4Row.holds Tryd.pinned (OpenSpec.ofChange splitWhole4Spec)

/-- ITS FALSE NEIGHBOUR: 'it returns false'. Refute it at one input. -/
def splitWhole4Wrong : ChangeSpec := { name := "splitWhole4", fn := fun _ => fun
  | [d1, d2] => { results := [.lit (.bool false)], args := [d1, d2] }
  | _ => none }
def SplitWhole4WrongFalsely : Prop := splitWhole4Row.holds Tryd.pinned (OpenSpec.ofChange splitWhole4Wrong)

/-- 'weirlaw13.SplitTwice': WHATEVER THE INPUT: true; the input reads as it did. -/
def splitTwiceSpec : ChangeSpec := { name := "splitTwice", fn := fun _ => fun
  | [d1, d2, d3] => { results := [.lit (.bool true)], args := [d1, d2, d3] }
  | _ => none }
def splitTwiceRow : OpenClaim := { program := "yteppichfkeknbaadoor", sum := "8510a9ad2b42354bd3b58274862538acd1e4308845593f993d950c688fddfbc1", func := "weir/weirlaw13.SplitTwice", spec := "splitTwice", inPlace := ["internal/bytealg.MakeNoZero"], unfollowed := true, recurses := true, named := ["weir/ip6.known"], apart := false, laid := [("weir/ip6.known", laid_weir_ip6_known)] }
def SplitTwiceSaid : Prop := splitTwiceRow.holds Tryd.pinned (OpenSpec.ofChange splitTwiceSpec)

/-- ITS FALSE NEIGHBOUR: 'it returns false'. Refute it at one input. -/
def splitTwiceWrong : ChangeSpec := { name := "splitTwice", fn := fun _ => fun
  | [d1, d2, d3] => { results := [.lit (.bool false)], args := [d1, d2, d3] }
  | _ => none }
def SplitTwiceWrongFalsely : Prop := splitTwiceRow.holds Tryd.pinned (OpenSpec.ofChange splitTwiceWrong)

/-- 'weirlaw13.SplitOwn': WHATEVER THE INPUT: true; the input reads as it did. -/
def splitOwnSpec : ChangeSpec := { name := "splitOwn", fn := fun _ => fun
  | [d1, d2, d3, d4] => { results := [.lit (.bool true)], args := [d1, d2, d3, d4] }
  | _ => none }
def splitOwnRow : OpenClaim := { program := "yteppichfkeknbaadoor", sum := "8510a9ad2b42354bd3b58274862538acd1e4308845593f993d950c688fddfbc1", func := "weir/weirlaw13.SplitOwn", spec := "splitOwn", inPlace := ["internal/bytealg.MakeNoZero"], unfollowed := true, recurses := true, named := ["weir/ip6.known"], apart := false, laid := [("weir/ip6.known", laid_weir_ip6_known)] }
def SplitOwnSaid : Prop := splitOwnRow.holds Tryd.pinned (OpenSpec.ofChange splitOwnSpec)

/-- ITS FALSE NEIGHBOUR: 'it returns false'. Refute it at one input. -/
def splitOwnWrong : ChangeSpec := { name := "splitOwn", fn := fun _ => fun
  | [d1, d2, d3, d4] => { results := [.lit (.bool false)], args := [d1, d2, d3, d4] }
  | _ => none }
def SplitOwnWrongFalsely : Prop := splitOwnRow.holds Tryd.pinned (OpenSpec.ofChange splitOwnWrong)

/-- 'weirlaw13.SplitFour': WHATEVER THE INPUT: true; the input reads as it did. -/
def splitFourSpec : ChangeSpec := { name := "splitFour", fn := fun _ => fun
  | [d1, d2] => { results := [.lit (.bool true)], args := [d1, d2] }
  | _ => none }
def splitFourRow : OpenClaim := { program := "yteppichfkeknbaadoor", sum := "8510a9ad2b42354bd3b58274862538acd1e4308845593f993d950c688fddfbc1", func := "weir/weirlaw13.SplitFour", spec := "splitFour", inPlace := ["internal/bytealg.MakeNoZero"], unfollowed := true, recurses := true, named := ["weir/ip6.known"], apart := false, laid := [("weir/ip6.known", laid_weir_ip6_known)] }
def SplitFourSaid : Prop := splitFourRow.holds Tryd.pinned (OpenSpec.ofChange splitFourSpec)

/-- ITS FALSE NEIGHBOUR: 'it returns false'. Refute it at one input. -/
def splitFourWrong : ChangeSpec := { name := "splitFour", fn := fun _ => fun
  | [d1, d2] => { results := [.lit (.bool false)], args := [d1, d2] }
  | _ => none }
def SplitFourWrongFalsely : Prop := splitFourRow.holds Tryd.pinned (OpenSpec.ofChange splitFourWrong)

/-- 'weirlaw13.SplitSix': WHATEVER THE INPUT: true; the input reads as it did. -/
def splitSixSpec : ChangeSpec := { name := "splitSix", fn := fun _ => fun
  | [d1, d2, d3] => { results := [.lit (.bool true)], args := [d1, d2, d3] }
  | _ => none }
def splitSixRow : OpenClaim := { program := "yteppichfkeknbaadoor", sum := "8510a9ad2b42354bd3b58274862538acd1e4308845593f993d950c688fddfbc1", func := "weir/weirlaw13.SplitSix", spec := "splitSix", inPlace := ["internal/bytealg.MakeNoZero"], unfollowed := true, recurses := true, named := ["weir/ip6.known"], apart := false, laid := [("weir/ip6.known", laid_weir_ip6_known)] }
def SplitSixSaid : Prop := splitSixRow.holds Tryd.pinned (OpenSpec.ofChange splitSixSpec)

/-- ITS FALSE NEIGHBOUR: 'it returns false'. Refute it at one input. -/
def splitSixWrong : ChangeSpec := { name := "splitSix", fn := fun _ => fun
  | [d1, d2, d3] => { results := [.lit (.bool false)], args := [d1, d2, d3] }
  | _ => none }
def SplitSixWrongFalsely : Prop := splitSixRow.holds Tryd.pinned (OpenSpec.ofChange splitSixWrong)

/-- 'weirlaw13.SplitMay6': WHATEVER THE INPUT: true; the input reads as it did. -/
def splitMay6Spec : ChangeSpec := { name := "splitMay6", fn := fun _ => fun
  | [d1, d2, d3] => { results := [.lit (.bool true)], args := [d1, d2, d3] }
  | _ => none }
def splitMay6Row : OpenClaim := { program := "yteppichfkeknbaadoor", sum := "8510a9ad2b42354bd3b58274862538acd1e4308845593f993d950c688fddfbc1", func := "weir/weirlaw13.SplitMay6", spec := "splitMay6", inPlace := ["internal/bytealg.MakeNoZero"], unfollowed := true, recurses := true, named := ["weir/ip6.known"], apart := false, laid := [("weir/ip6.known", laid_weir_ip6_known)] }
def SplitMay6Said : Prop := splitMay6Row.holds Tryd.pinned (OpenSpec.ofChange splitMay6Spec)

/-- ITS FALSE NEIGHBOUR: 'it returns false'. Refute it at one input. -/
def splitMay6Wrong : ChangeSpec := { name := "splitMay6", fn := fun _ => fun
  | [d1, d2, d3] => { results := [.lit (.bool false)], args := [d1, d2, d3] }
  | _ => none }
def SplitMay6WrongFalsely : Prop := splitMay6Row.holds Tryd.pinned (OpenSpec.ofChange splitMay6Wrong)

/-- 'weirlaw13.SplitAgain': WHATEVER THE INPUT: true; the input reads as it did. -/
def splitAgainSpec : ChangeSpec := { name := "splitAgain", fn := fun _ => fun
  | [d1, d2, d3, d4, d5] => { results := [.lit (.bool true)], args := [d1, d2, d3, d4, d5] }
  | _ => none }
def splitAgainRow : OpenClaim := { program := "yteppichfkeknbaadoor", sum := "8510a9ad2b42354bd3b58274862538acd1e4308845593f993d950c688fddfbc1", func := "weir/weirlaw13.SplitAgain", spec := "splitAgain", inPlace := ["internal/bytealg.MakeNoZero"], unfollowed := true, recurses := true, named := ["weir/ip6.known"], apart := false, laid := [("weir/ip6.known", laid_weir_ip6_known)] }
def SplitAgainSaid : Prop := splitAgainRow.holds Tryd.pinned (OpenSpec.ofChange splitAgainSpec)

/-- ITS FALSE NEIGHBOUR: 'it returns false'. Refute it at one input. -/
def splitAgainWrong : ChangeSpec := { name := "splitAgain", fn := fun _ => fun
  | [d1, d2, d3, d4, d5] => { results := [.lit (.bool false)], args := [d1, d2, d3, d4, d5] }
  | _ => none }
def SplitAgainWrongFalsely : Prop := splitAgainRow.holds Tryd.pinned (OpenSpec.ofChange splitAgainWrong)

/-- 'weirlaw13.SplitMay4': WHATEVER THE INPUT: true; the input reads as it did. -/
def splitMay4Spec : ChangeSpec := { name := "splitMay4", fn := fun _ => fun
  | [d1, d2] => { results := [.lit (.bool true)], args := [d1, d2] }
  | _ => none }
def splitMay4Row : OpenClaim := { program := "yteppichfkeknbaadoor", sum := "8510a9ad2b42354bd3b58274862538acd1e4308845593f993d950c688fddfbc1", func := "weir/weirlaw13.SplitMay4", spec := "splitMay4", inPlace := ["internal/bytealg.MakeNoZero"], unfollowed := true, recurses := true, named := ["weir/ip6.known", "weir/ip4.widths"], apart := false, laid := [("weir/ip4.widths", laid_weir_ip4_widths), ("weir/ip6.known", laid_weir_ip6_known)] }
def SplitMay4Said : Prop := splitMay4Row.holds Tryd.pinned (OpenSpec.ofChange splitMay4Spec)

/-- ITS FALSE NEIGHBOUR: 'it returns false'. Refute it at one input. -/
def splitMay4Wrong : ChangeSpec := { name := "splitMay4", fn := fun _ => fun
  | [d1, d2] => { results := [.lit (.bool false)], args := [d1, d2] }
  | _ => none }
def SplitMay4WrongFalsely : Prop := splitMay4Row.holds Tryd.pinned (OpenSpec.ofChange splitMay4Wrong)

/-- 'weirlaw13.SplitWhole6': WHATEVER THE INPUT: true; the input reads as it did. -/
def splitWhole6Spec : ChangeSpec := { name := "splitWhole6", fn := fun _ => fun
  | [d1, d2, d3] => { results := [.lit (.bool true)], args := [d1, d2, d3] }
  | _ => none }
def splitWhole6Row : OpenClaim := { program := "yteppichfkeknbaadoor", sum := "8510a9ad2b42354bd3b58274862538acd1e4308845593f993d950c688fddfbc1", func := "weir/weirlaw13.SplitWhole6", spec := "splitWhole6", inPlace := ["internal/bytealg.MakeNoZero"], unfollowed := true, recurses := true, named := ["weir/ip6.known"], apart := false, laid := [("weir/ip6.known", laid_weir_ip6_known)] }
def SplitWhole6Said : Prop := splitWhole6Row.holds Tryd.pinned (OpenSpec.ofChange splitWhole6Spec)

/-- ITS FALSE NEIGHBOUR: 'it returns false'. Refute it at one input. -/
def splitWhole6Wrong : ChangeSpec := { name := "splitWhole6", fn := fun _ => fun
  | [d1, d2, d3] => { results := [.lit (.bool false)], args := [d1, d2, d3] }
  | _ => none }
def SplitWhole6WrongFalsely : Prop := splitWhole6Row.holds Tryd.pinned (OpenSpec.ofChange splitWhole6Wrong)

/- THE SECOND FORM. 'bulk': how many values and letters a reading holds, each counted each time it is reached (what is shared counts as often as it is met; a slice's spare places count too). A statement '..UptoSaid' is the law's where the arguments, and the package variables that the reading takes, are together of bulk at most 1048576: NARROWER than '..Said'. Prove '..Said' where nothing that the law and all that it calls make is longer than what came in: it says more and counts as full. Else prove '..UptoSaid'. A law counts once. -/
mutual
def uptoBulk {H : Type} : DataW H → Nat
  | .lit (.string bytes) => bytes.length + 1
  | .lit _ => 1
  | .nil => 1
  | .ptr d => uptoBulk d + 1
  | .slice elems spare => uptoBulkAll elems + uptoBulkAll spare + 1
  | .agg parts => uptoBulkAll parts + 1
  | .iface _ d => uptoBulk d + 1
  | .map entries => uptoBulkEntries entries + 1
  | .held _ => 1
def uptoBulkAll {H : Type} : List (DataW H) → Nat
  | [] => 0
  | d :: r => uptoBulk d + uptoBulkAll r
def uptoBulkEntries {H : Type} : List (Lit × DataW H) → Nat
  | [] => 0
  | x :: r => uptoBulkEntry x + uptoBulkEntries r
def uptoBulkEntry {H : Type} : Lit × DataW H → Nat
  | (.string bytes, d) => bytes.length + uptoBulk d + 1
  | (_, d) => uptoBulk d + 1
 end
def uptoSmall : (H : Type) → List (DataW H) → Bool := fun _ ds => decide (uptoBulkAll ds ≤ 1048576)
def OpenSpec.upto (s : _root_.Go.ChangeSpec) : _root_.Go.OpenSpec := { _root_.Go.OpenSpec.ofChange s with cond := some uptoSmall }

/-- 'weirlaw13.SplitWhole4', WHERE WHAT IT READS IS OF BULK AT MOST 1048576: true; the input reads as it did. -/
def splitWhole4UptoRow : OpenClaim := { program := "yteppichfkeknbaadoor", sum := "8510a9ad2b42354bd3b58274862538acd1e4308845593f993d950c688fddfbc1", func := "weir/weirlaw13.SplitWhole4", spec := "splitWhole4", inPlace := ["internal/bytealg.MakeNoZero"], unfollowed := true, recurses := true, named := ["weir/ip6.known"], apart := false, laid := [("weir/ip6.known", laid_weir_ip6_known)], narrowed := true }
def SplitWhole4UptoSaid : Prop := splitWhole4UptoRow.holds Tryd.pinned (OpenSpec.upto splitWhole4Spec)

/-- 'weirlaw13.SplitTwice', WHERE WHAT IT READS IS OF BULK AT MOST 1048576: true; the input reads as it did. -/
def splitTwiceUptoRow : OpenClaim := { program := "yteppichfkeknbaadoor", sum := "8510a9ad2b42354bd3b58274862538acd1e4308845593f993d950c688fddfbc1", func := "weir/weirlaw13.SplitTwice", spec := "splitTwice", inPlace := ["internal/bytealg.MakeNoZero"], unfollowed := true, recurses := true, named := ["weir/ip6.known"], apart := false, laid := [("weir/ip6.known", laid_weir_ip6_known)], narrowed := true }
def SplitTwiceUptoSaid : Prop := splitTwiceUptoRow.holds Tryd.pinned (OpenSpec.upto splitTwiceSpec)

/-- 'weirlaw13.SplitOwn', WHERE WHAT IT READS IS OF BULK AT MOST 1048576: true; the input reads as it did. -/
def splitOwnUptoRow : OpenClaim := { program := "yteppichfkeknbaadoor", sum := "8510a9ad2b42354bd3b58274862538acd1e4308845593f993d950c688fddfbc1", func := "weir/weirlaw13.SplitOwn", spec := "splitOwn", inPlace := ["internal/bytealg.MakeNoZero"], unfollowed := true, recurses := true, named := ["weir/ip6.known"], apart := false, laid := [("weir/ip6.known", laid_weir_ip6_known)], narrowed := true }
def SplitOwnUptoSaid : Prop := splitOwnUptoRow.holds Tryd.pinned (OpenSpec.upto splitOwnSpec)

/-- 'weirlaw13.SplitFour', WHERE WHAT IT READS IS OF BULK AT MOST 1048576: true; the input reads as it did. -/
def splitFourUptoRow : OpenClaim := { program := "yteppichfkeknbaadoor", sum := "8510a9ad2b42354bd3b58274862538acd1e4308845593f993d950c688fddfbc1", func := "weir/weirlaw13.SplitFour", spec := "splitFour", inPlace := ["internal/bytealg.MakeNoZero"], unfollowed := true, recurses := true, named := ["weir/ip6.known"], apart := false, laid := [("weir/ip6.known", laid_weir_ip6_known)], narrowed := true }
def SplitFourUptoSaid : Prop := splitFourUptoRow.holds Tryd.pinned (OpenSpec.upto splitFourSpec)

/-- 'weirlaw13.SplitSix', WHERE WHAT IT READS IS OF BULK AT MOST 1048576: true; the input reads as it did. -/
def splitSixUptoRow : OpenClaim := { program := "yteppichfkeknbaadoor", sum := "8510a9ad2b42354bd3b58274862538acd1e4308845593f993d950c688fddfbc1", func := "weir/weirlaw13.SplitSix", spec := "splitSix", inPlace := ["internal/bytealg.MakeNoZero"], unfollowed := true, recurses := true, named := ["weir/ip6.known"], apart := false, laid := [("weir/ip6.known", laid_weir_ip6_known)], narrowed := true }
def SplitSixUptoSaid : Prop := splitSixUptoRow.holds Tryd.pinned (OpenSpec.upto splitSixSpec)

/-- 'weirlaw13.SplitMay6', WHERE WHAT IT READS IS OF BULK AT MOST 1048576: true; the input reads as it did. -/
def splitMay6UptoRow : OpenClaim := { program := "yteppichfkeknbaadoor", sum := "8510a9ad2b42354bd3b58274862538acd1e4308845593f993d950c688fddfbc1", func := "weir/weirlaw13.SplitMay6", spec := "splitMay6", inPlace := ["internal/bytealg.MakeNoZero"], unfollowed := true, recurses := true, named := ["weir/ip6.known"], apart := false, laid := [("weir/ip6.known", laid_weir_ip6_known)], narrowed := true }
def SplitMay6UptoSaid : Prop := splitMay6UptoRow.holds Tryd.pinned (OpenSpec.upto splitMay6Spec)

/-- 'weirlaw13.SplitAgain', WHERE WHAT IT READS IS OF BULK AT MOST 1048576: true; the input reads as it did. -/
def splitAgainUptoRow : OpenClaim := { program := "yteppichfkeknbaadoor", sum := "8510a9ad2b42354bd3b58274862538acd1e4308845593f993d950c688fddfbc1", func := "weir/weirlaw13.SplitAgain", spec := "splitAgain", inPlace := ["internal/bytealg.MakeNoZero"], unfollowed := true, recurses := true, named := ["weir/ip6.known"], apart := false, laid := [("weir/ip6.known", laid_weir_ip6_known)], narrowed := true }
def SplitAgainUptoSaid : Prop := splitAgainUptoRow.holds Tryd.pinned (OpenSpec.upto splitAgainSpec)

/-- 'weirlaw13.SplitMay4', WHERE WHAT IT READS IS OF BULK AT MOST 1048576: true; the input reads as it did. -/
def splitMay4UptoRow : OpenClaim := { program := "yteppichfkeknbaadoor", sum := "8510a9ad2b42354bd3b58274862538acd1e4308845593f993d950c688fddfbc1", func := "weir/weirlaw13.SplitMay4", spec := "splitMay4", inPlace := ["internal/bytealg.MakeNoZero"], unfollowed := true, recurses := true, named := ["weir/ip6.known", "weir/ip4.widths"], apart := false, laid := [("weir/ip4.widths", laid_weir_ip4_widths), ("weir/ip6.known", laid_weir_ip6_known)], narrowed := true }
def SplitMay4UptoSaid : Prop := splitMay4UptoRow.holds Tryd.pinned (OpenSpec.upto splitMay4Spec)

/-- 'weirlaw13.SplitWhole6', WHERE WHAT IT READS IS OF BULK AT MOST 1048576: true; the input reads as it did. -/
def splitWhole6UptoRow : OpenClaim := { program := "yteppichfkeknbaadoor", sum := "8510a9ad2b42354bd3b58274862538acd1e4308845593f993d950c688fddfbc1", func := "weir/weirlaw13.SplitWhole6", spec := "splitWhole6", inPlace := ["internal/bytealg.MakeNoZero"], unfollowed := true, recurses := true, named := ["weir/ip6.known"], apart := false, laid := [("weir/ip6.known", laid_weir_ip6_known)], narrowed := true }
def SplitWhole6UptoSaid : Prop := splitWhole6UptoRow.holds Tryd.pinned (OpenSpec.upto splitWhole6Spec)

end Rows
end Go.Proofs.YteppichfkeknbaaDoor
