/-
  NARROWER THAN 'FOR EVERY INPUT', by the rows' own cells (each row's printed sentence says how): TopWholeOnce6: laid.
  DERIVED. THE GIVEN ROWS OF THIS SEAT. 1 by the template 'for every input the law returns true; each argument reads behind the call as it read before'; 0 by the template 'total and deterministic' (their statements: YthhgbpmihhljdaaGreatDoorTotals.lean).
  GIVEN WITH THE SEED: the statements are not yours to turn. If you find one false, say at which input.
  Laid BY PROGRAM, IN A SANDBOX (cutbox-rows.mjs): the forced cells as the released guide's own fill.sh prints them over the translation 163889565a89959d… (all of the seat's roots in one cut). By AI agents, Wed Nov 11 2026. No macro, syntax, notation, axiom, sorry.
-/
import Derived.Test.YthhgbpmihhljdaaGreatDoorChecked
import GoSem.Claim
import GoSem.ClaimJoined
import GoSem.ClaimMapViews
import Derived.JoinedTies
import Derived.KernelRfl
namespace Go.Proofs.YthhgbpmihhljdaaGreatDoor
/- THE CELL 'sum', in the pinned program and in every row, IS THE sha256 OF THE DUMP (.gsa) THAT YthhgbpmihhljdaaGreatDoorProg.lean LOADS. Nothing in Lean hashes anything: it is a label: what it is worth is what the hold of that sum in a sandbox is worth. -/
noncomputable def Tryz.pinned : Pinned := { name := "ythhgbpmihhljdaagreatdoor", sum := "163889565a89959df71c1e4dd3f8289a1d118672de44a09c1e79e39e9a4fd26b", checked := Tryz.checked }
namespace Rows
def none {H : Type} : Left H := { results := [], args := [] }

/- WHAT THE LISTED PACKAGE-LEVEL VARIABLES READ AS WHEN THE CALL BEGINS. Each datum BY PROGRAM (the guide's laid-datum.mjs) off the statement by which the dump's own 'gosem.cut.vars' lays the variable. In a bare row this is a premise. The card (YthhgbpmihhljdaaGreatDoorCards.lean) ties it to the program's text. -/
def laid_weir_ip6_known {H : Type} : DataW H := .agg [.agg [.lit (.int .i64 0), .lit (.int .i64 1)], .agg [.lit (.int .i64 43), .lit (.int .i64 2)], .agg [.lit (.int .i64 44), .lit (.int .i64 3)], .agg [.lit (.int .i64 60), .lit (.int .i64 1)]]

/-- 'weirtop.TopWholeOnce6': WHATEVER THE INPUT: true; the input reads as it did. -/
def topWholeOnce6Spec : ChangeSpec := { name := "topWholeOnce6", fn := fun _ => fun
  | [d1, d2, d3, d4, d5] => { results := [.lit (.bool true)], args := [d1, d2, d3, d4, d5] }
  | _ => none }
def topWholeOnce6Row : OpenClaim := { program := "ythhgbpmihhljdaagreatdoor", sum := "163889565a89959df71c1e4dd3f8289a1d118672de44a09c1e79e39e9a4fd26b", func := "weir/weirtop.TopWholeOnce6", spec := "topWholeOnce6", inPlace := ["internal/bytealg.MakeNoZero"], unfollowed := true, recurses := true, named := ["weir/ip6.known"], plainKeys := false, apart := false, laid := [("weir/ip6.known", laid_weir_ip6_known)] }
def TopWholeOnce6Said : Prop := topWholeOnce6Row.holds Tryz.pinned (OpenSpec.ofChange topWholeOnce6Spec)

/-- ITS FALSE NEIGHBOUR: 'it returns false'. Refute it at one input. -/
def topWholeOnce6Wrong : ChangeSpec := { name := "topWholeOnce6", fn := fun _ => fun
  | [d1, d2, d3, d4, d5] => { results := [.lit (.bool false)], args := [d1, d2, d3, d4, d5] }
  | _ => none }
def TopWholeOnce6WrongFalsely : Prop := topWholeOnce6Row.holds Tryz.pinned (OpenSpec.ofChange topWholeOnce6Wrong)

/- THE SECOND FORM. 'bulk': how many values and letters a reading holds, each counted each time it is reached (what is shared counts as often as it is met; a slice's spare places count too). A statement '..UptoSaid' is the law's where the arguments, and the package variables that the reading takes, are together of bulk at most 1048576: NARROWER than '..Said'. Prove '..Said' where nothing that the law and all that it calls make is longer than what came in: it says more and counts as full. Else prove '..UptoSaid'. A law counts once. -/
mutual
def uptoBulk {H : Type} : DataW H → Nat
  | .lit (.string bytes) => bytes.length + 1
  | .lit _ => 1
  | .nil => 1
  | .ptr d => uptoBulk d + 1
  | .slice elems spare => uptoBulkAll elems + uptoBulkAll spare + 1
  | .agg parts => uptoBulkAll parts + 1
  | .iface _ d => uptoBulk d + 1
  | .map entries => uptoBulkEntries entries + 1
  | .held _ => 1
def uptoBulkAll {H : Type} : List (DataW H) → Nat
  | [] => 0
  | d :: r => uptoBulk d + uptoBulkAll r
def uptoBulkEntries {H : Type} : List (Lit × DataW H) → Nat
  | [] => 0
  | x :: r => uptoBulkEntry x + uptoBulkEntries r
def uptoBulkEntry {H : Type} : Lit × DataW H → Nat
  | (.string bytes, d) => bytes.length + uptoBulk d + 1
  | (_, d) => uptoBulk d + 1
 end
def uptoSmall : (H : Type) → List (DataW H) → Bool := fun _ ds => decide (uptoBulkAll ds ≤ 1048576)
def OpenSpec.upto (s : _root_.Go.ChangeSpec) : _root_.Go.OpenSpec := { _root_.Go.OpenSpec.ofChange s with cond := some uptoSmall }

/-- 'weirtop.TopWholeOnce6', WHERE WHAT IT READS IS OF BULK AT MOST 1048576: true; the input reads as it did. -/
def topWholeOnce6UptoRow : OpenClaim := { program := "ythhgbpmihhljdaagreatdoor", sum := "163889565a89959df71c1e4dd3f8289a1d118672de44a09c1e79e39e9a4fd26b", func := "weir/weirtop.TopWholeOnce6", spec := "topWholeOnce6", inPlace := ["internal/bytealg.MakeNoZero"], unfollowed := true, recurses := true, named := ["weir/ip6.known"], plainKeys := false, apart := false, laid := [("weir/ip6.known", laid_weir_ip6_known)], narrowed := true }
def TopWholeOnce6UptoSaid : Prop := topWholeOnce6UptoRow.holds Tryz.pinned (OpenSpec.upto topWholeOnce6Spec)

end Rows
end Go.Proofs.YthhgbpmihhljdaaGreatDoor
