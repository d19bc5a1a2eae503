/-
  NARROWER THAN 'FOR EVERY INPUT', by the rows' own cells (each row's printed sentence says how): Ip6Reads: laid · Ip6Writes: laid · Ip6Chains: laid · Ip6Plays: laid.
  DERIVED. THE GIVEN ROWS OF THIS SEAT. 4 by the template 'for every input the law returns true; each argument reads behind the call as it read before'; 0 by the template 'total and deterministic' (their statements: YtkiogaglmjeplaaGreatDoorTotals.lean).
  GIVEN WITH THE SEED: the statements are not yours to turn. If you find one false, say at which input.
  Laid BY PROGRAM, IN A SANDBOX (cutbox-rows.mjs): the forced cells as the released guide's own fill.sh prints them over the translation 617b042b0bbd1ea8… (all of the seat's roots in one cut). By AI agents, Wed Nov 11 2026. No macro, syntax, notation, axiom, sorry.
-/
import Derived.Test.YtkiogaglmjeplaaGreatDoorChecked
import GoSem.Claim
import GoSem.ClaimJoined
import GoSem.ClaimMapViews
import Derived.JoinedTies
import Derived.KernelRfl
namespace Go.Proofs.YtkiogaglmjeplaaGreatDoor
/- THE CELL 'sum', in the pinned program and in every row, IS THE sha256 OF THE DUMP (.gsa) THAT YtkiogaglmjeplaaGreatDoorProg.lean LOADS. Nothing in Lean hashes anything: it is a label: what it is worth is what the hold of that sum in a sandbox is worth. -/
noncomputable def Tryz.pinned : Pinned := { name := "ytkiogaglmjeplaagreatdoor", sum := "617b042b0bbd1ea85651e0f081a4cceaa449e309dc1c79ae7dbcf6419a29b1ab", checked := Tryz.checked }
namespace Rows
def none {H : Type} : Left H := { results := [], args := [] }

/- WHAT THE LISTED PACKAGE-LEVEL VARIABLES READ AS WHEN THE CALL BEGINS. Each datum BY PROGRAM (the guide's laid-datum.mjs) off the statement by which the dump's own 'gosem.cut.vars' lays the variable. In a bare row this is a premise. The card (YtkiogaglmjeplaaGreatDoorCards.lean) ties it to the program's text. -/
def laid_weir_ip6_known {H : Type} : DataW H := .agg [.agg [.lit (.int .i64 0), .lit (.int .i64 1)], .agg [.lit (.int .i64 43), .lit (.int .i64 2)], .agg [.lit (.int .i64 44), .lit (.int .i64 3)], .agg [.lit (.int .i64 60), .lit (.int .i64 1)]]

/-- 'weirlaw7.Ip6Reads': WHATEVER THE INPUT: true; the input reads as it did. -/
def ip6ReadsSpec : ChangeSpec := { name := "ip6Reads", fn := fun _ => fun
  | [d] => { results := [.lit (.bool true)], args := [d] }
  | _ => none }
def ip6ReadsRow : OpenClaim := { program := "ytkiogaglmjeplaagreatdoor", sum := "617b042b0bbd1ea85651e0f081a4cceaa449e309dc1c79ae7dbcf6419a29b1ab", func := "weir/weirlaw7.Ip6Reads", spec := "ip6Reads", inPlace := ["internal/bytealg.MakeNoZero"], unfollowed := true, recurses := true, named := ["weir/ip6.known"], apart := false, laid := [("weir/ip6.known", laid_weir_ip6_known)] }
def Ip6ReadsSaid : Prop := ip6ReadsRow.holds Tryz.pinned (OpenSpec.ofChange ip6ReadsSpec)

/-- ITS FALSE NEIGHBOUR: 'it returns false'. Refute it at one input. -/
def ip6ReadsWrong : ChangeSpec := { name := "ip6Reads", fn := fun _ => fun
  | [d] => { results := [.lit (.bool false)], args := [d] }
  | _ => none }
def Ip6ReadsWrongFalsely : Prop := ip6ReadsRow.holds Tryz.pinned (OpenSpec.ofChange ip6ReadsWrong)

/-- 'weirlaw7.Ip6Writes': WHATEVER THE INPUT: true; the input reads as it did. -/
def ip6WritesSpec : ChangeSpec := { name := "ip6Writes", fn := fun _ => fun
  | [d] => { results := [.lit (.bool true)], args := [d] }
  | _ => none }
def ip6WritesRow : OpenClaim := { program := "ytkiogaglmjeplaagreatdoor", sum := "617b042b0bbd1ea85651e0f081a4cceaa449e309dc1c79ae7dbcf6419a29b1ab", func := "weir/weirlaw7.Ip6Writes", spec := "ip6Writes", inPlace := ["internal/bytealg.MakeNoZero"], unfollowed := true, recurses := true, named := ["weir/ip6.known"], apart := false, laid := [("weir/ip6.known", laid_weir_ip6_known)] }
def Ip6WritesSaid : Prop := ip6WritesRow.holds Tryz.pinned (OpenSpec.ofChange ip6WritesSpec)

/-- ITS FALSE NEIGHBOUR: 'it returns false'. Refute it at one input. -/
def ip6WritesWrong : ChangeSpec := { name := "ip6Writes", fn := fun _ => fun
  | [d] => { results := [.lit (.bool false)], args := [d] }
  | _ => none }
def Ip6WritesWrongFalsely : Prop := ip6WritesRow.holds Tryz.pinned (OpenSpec.ofChange ip6WritesWrong)

/-- 'weirlaw7.Ip6Chains': WHATEVER THE INPUT: true; the input reads as it did. -/
def ip6ChainsSpec : ChangeSpec := { name := "ip6Chains", fn := fun _ => fun
  | [d] => { results := [.lit (.bool true)], args := [d] }
  | _ => none }
def ip6ChainsRow : OpenClaim := { program := "ytkiogaglmjeplaagreatdoor", sum := "617b042b0bbd1ea85651e0f081a4cceaa449e309dc1c79ae7dbcf6419a29b1ab", func := "weir/weirlaw7.Ip6Chains", spec := "ip6Chains", inPlace := ["internal/bytealg.MakeNoZero"], unfollowed := true, recurses := true, named := ["weir/ip6.known"], apart := false, laid := [("weir/ip6.known", laid_weir_ip6_known)] }
def Ip6ChainsSaid : Prop := ip6ChainsRow.holds Tryz.pinned (OpenSpec.ofChange ip6ChainsSpec)

/-- ITS FALSE NEIGHBOUR: 'it returns false'. Refute it at one input. -/
def ip6ChainsWrong : ChangeSpec := { name := "ip6Chains", fn := fun _ => fun
  | [d] => { results := [.lit (.bool false)], args := [d] }
  | _ => none }
def Ip6ChainsWrongFalsely : Prop := ip6ChainsRow.holds Tryz.pinned (OpenSpec.ofChange ip6ChainsWrong)

/-- 'weirlaw7.Ip6Plays': WHATEVER THE INPUT: true; the input reads as it did. -/
def ip6PlaysSpec : ChangeSpec := { name := "ip6Plays", fn := fun _ => fun
  | [d] => { results := [.lit (.bool true)], args := [d] }
  | _ => none }
def ip6PlaysRow : OpenClaim := { program := "ytkiogaglmjeplaagreatdoor", sum := "617b042b0bbd1ea85651e0f081a4cceaa449e309dc1c79ae7dbcf6419a29b1ab", func := "weir/weirlaw7.Ip6Plays", spec := "ip6Plays", inPlace := ["internal/bytealg.MakeNoZero"], unfollowed := true, recurses := true, named := ["weir/ip6.known"], apart := false, laid := [("weir/ip6.known", laid_weir_ip6_known)] }
def Ip6PlaysSaid : Prop := ip6PlaysRow.holds Tryz.pinned (OpenSpec.ofChange ip6PlaysSpec)

/-- ITS FALSE NEIGHBOUR: 'it returns false'. Refute it at one input. -/
def ip6PlaysWrong : ChangeSpec := { name := "ip6Plays", fn := fun _ => fun
  | [d] => { results := [.lit (.bool false)], args := [d] }
  | _ => none }
def Ip6PlaysWrongFalsely : Prop := ip6PlaysRow.holds Tryz.pinned (OpenSpec.ofChange ip6PlaysWrong)

/- THE SECOND FORM. 'bulk': how many values and letters a reading holds, each counted each time it is reached (what is shared counts as often as it is met; a slice's spare places count too). A statement '..UptoSaid' is the law's where the arguments, and the package variables that the reading takes, are together of bulk at most 1048576: NARROWER than '..Said'. Prove '..Said' where nothing that the law and all that it calls make is longer than what came in: it says more and counts as full. Else prove '..UptoSaid'. A law counts once. -/
mutual
def uptoBulk {H : Type} : DataW H → Nat
  | .lit (.string bytes) => bytes.length + 1
  | .lit _ => 1
  | .nil => 1
  | .ptr d => uptoBulk d + 1
  | .slice elems spare => uptoBulkAll elems + uptoBulkAll spare + 1
  | .agg parts => uptoBulkAll parts + 1
  | .iface _ d => uptoBulk d + 1
  | .map entries => uptoBulkEntries entries + 1
  | .held _ => 1
def uptoBulkAll {H : Type} : List (DataW H) → Nat
  | [] => 0
  | d :: r => uptoBulk d + uptoBulkAll r
def uptoBulkEntries {H : Type} : List (Lit × DataW H) → Nat
  | [] => 0
  | x :: r => uptoBulkEntry x + uptoBulkEntries r
def uptoBulkEntry {H : Type} : Lit × DataW H → Nat
  | (.string bytes, d) => bytes.length + uptoBulk d + 1
  | (_, d) => uptoBulk d + 1
 end
def uptoSmall : (H : Type) → List (DataW H) → Bool := fun _ ds => decide (uptoBulkAll ds ≤ 1048576)
def OpenSpec.upto (s : _root_.Go.ChangeSpec) : _root_.Go.OpenSpec := { _root_.Go.OpenSpec.ofChange s with cond := some uptoSmall }

/-- 'weirlaw7.Ip6Reads', WHERE WHAT IT READS IS OF BULK AT MOST 1048576: true; the input reads as it did. -/
def ip6ReadsUptoRow : OpenClaim := { program := "ytkiogaglmjeplaagreatdoor", sum := "617b042b0bbd1ea85651e0f081a4cceaa449e309dc1c79ae7dbcf6419a29b1ab", func := "weir/weirlaw7.Ip6Reads", spec := "ip6Reads", inPlace := ["internal/bytealg.MakeNoZero"], unfollowed := true, recurses := true, named := ["weir/ip6.known"], apart := false, laid := [("weir/ip6.known", laid_weir_ip6_known)], narrowed := true }
def Ip6ReadsUptoSaid : Prop := ip6ReadsUptoRow.holds Tryz.pinned (OpenSpec.upto ip6ReadsSpec)

/-- 'weirlaw7.Ip6Writes', WHERE WHAT IT READS IS OF BULK AT MOST 1048576: true; the input reads as it did. -/
def ip6WritesUptoRow : OpenClaim := { program := "ytkiogaglmjeplaagreatdoor", sum := "617b042b0bbd1ea85651e0f081a4cceaa449e309dc1c79ae7dbcf6419a29b1ab", func := "weir/weirlaw7.Ip6Writes", spec := "ip6Writes", inPlace := ["internal/bytealg.MakeNoZero"], unfollowed := true, recurses := true, named := ["weir/ip6.known"], apart := false, laid := [("weir/ip6.known", laid_weir_ip6_known)], narrowed := true }
def Ip6WritesUptoSaid : Prop := ip6WritesUptoRow.holds Tryz.pinned (OpenSpec.upto ip6WritesSpec)

/-- 'weirlaw7.Ip6Chains', WHERE WHAT IT READS IS OF BULK AT MOST 1048576: true; the input reads as it did. -/
def ip6ChainsUptoRow : OpenClaim := { program := "ytkiogaglmjeplaagreatdoor", sum := "617b042b0bbd1ea85651e0f081a4cceaa449e309dc1c79ae7dbcf6419a29b1ab", func := "weir/weirlaw7.Ip6Chains", spec := "ip6Chains", inPlace := ["internal/bytealg.MakeNoZero"], unfollowed := true, recurses := true, named := ["weir/ip6.known"], apart := false, laid := [("weir/ip6.known", laid_weir_ip6_known)], narrowed := true }
def Ip6ChainsUptoSaid : Prop := ip6ChainsUptoRow.holds Tryz.pinned (OpenSpec.upto ip6ChainsSpec)

/-- 'weirlaw7.Ip6Plays', WHERE WHAT IT READS IS OF BULK AT MOST 1048576: true; the input reads as it did. -/
def ip6PlaysUptoRow : OpenClaim := { program := "ytkiogaglmjeplaagreatdoor", sum := "617b042b0bbd1ea85651e0f081a4cceaa449e309dc1c79ae7dbcf6419a29b1ab", func := "weir/weirlaw7.Ip6Plays", spec := "ip6Plays", inPlace := ["internal/bytealg.MakeNoZero"], unfollowed := true, recurses := true, named := ["weir/ip6.known"], apart := false, laid := [("weir/ip6.known", laid_weir_ip6_known)], narrowed := true }
def Ip6PlaysUptoSaid : Prop := ip6PlaysUptoRow.holds Tryz.pinned (OpenSpec.upto ip6PlaysSpec)

end Rows
end Go.Proofs.YtkiogaglmjeplaaGreatDoor
