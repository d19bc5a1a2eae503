/-
  NARROWER THAN 'FOR EVERY INPUT', by the rows' own cells (each row's printed sentence says how): Ip6Short: laid · Ip6Unlike: laid · Ip6Windows: laid · Ip6Links: laid · Ip6Own: laid · Ip6Lent: laid · Ip6Canon: laid · Ip6Back: laid · Ip6Hops: laid · Ip6Again: laid.
  DERIVED. THE GIVEN ROWS OF THIS SEAT. 10 by the template 'for every input the law returns true; each argument reads behind the call as it read before'; 0 by the template 'total and deterministic' (their statements: YtkiogaglmjeplaaDoorTotals.lean).
  GIVEN WITH THE SEED: the statements are not yours to turn. If you find one false, say at which input.
  Laid BY PROGRAM, IN A SANDBOX (cutbox-rows.mjs): the forced cells as the released guide's own fill.sh prints them over the translation 8730a7b9e88682c2… (all of the seat's roots in one cut). By AI agents, Wed Nov 11 2026. No macro, syntax, notation, axiom, sorry.
-/
import Derived.Test.YtkiogaglmjeplaaDoorChecked
import GoSem.Claim
import GoSem.ClaimJoined
import GoSem.ClaimMapViews
import Derived.JoinedTies
import Derived.KernelRfl
namespace Go.Proofs.YtkiogaglmjeplaaDoor
/- THE CELL 'sum', in the pinned program and in every row, IS THE sha256 OF THE DUMP (.gsa) THAT YtkiogaglmjeplaaDoorProg.lean LOADS. Nothing in Lean hashes anything: it is a label: what it is worth is what the hold of that sum in a sandbox is worth. -/
noncomputable def Tryd.pinned : Pinned := { name := "ytkiogaglmjeplaadoor", sum := "8730a7b9e88682c2161038416981c8e73882a9a0019f9b5459120cb19387eb5e", checked := Tryd.checked }
namespace Rows
def none {H : Type} : Left H := { results := [], args := [] }

/- WHAT THE LISTED PACKAGE-LEVEL VARIABLES READ AS WHEN THE CALL BEGINS. Each datum BY PROGRAM (the guide's laid-datum.mjs) off the statement by which the dump's own 'gosem.cut.vars' lays the variable. In a bare row this is a premise. The card (YtkiogaglmjeplaaDoorCards.lean) ties it to the program's text. -/
def laid_weir_ip6_known {H : Type} : DataW H := .agg [.agg [.lit (.int .i64 0), .lit (.int .i64 1)], .agg [.lit (.int .i64 43), .lit (.int .i64 2)], .agg [.lit (.int .i64 44), .lit (.int .i64 3)], .agg [.lit (.int .i64 60), .lit (.int .i64 1)]]

/-- 'weirlaw7.Ip6Short': WHATEVER THE INPUT: true; the input reads as it did. -/
def ip6ShortSpec : ChangeSpec := { name := "ip6Short", fn := fun _ => fun
  | [d1, d2, d3, d4] => { results := [.lit (.bool true)], args := [d1, d2, d3, d4] }
  | _ => none }
def ip6ShortRow : OpenClaim := { program := "ytkiogaglmjeplaadoor", sum := "8730a7b9e88682c2161038416981c8e73882a9a0019f9b5459120cb19387eb5e", func := "weir/weirlaw7.Ip6Short", spec := "ip6Short", inPlace := ["internal/bytealg.MakeNoZero"], unfollowed := true, recurses := true, named := ["weir/ip6.known"], apart := false, laid := [("weir/ip6.known", laid_weir_ip6_known)] }
def Ip6ShortSaid : Prop := ip6ShortRow.holds Tryd.pinned (OpenSpec.ofChange ip6ShortSpec)

/-- ITS FALSE NEIGHBOUR: 'it returns false'. Refute it at one input. -/
def ip6ShortWrong : ChangeSpec := { name := "ip6Short", fn := fun _ => fun
  | [d1, d2, d3, d4] => { results := [.lit (.bool false)], args := [d1, d2, d3, d4] }
  | _ => none }
def Ip6ShortWrongFalsely : Prop := ip6ShortRow.holds Tryd.pinned (OpenSpec.ofChange ip6ShortWrong)

/-- 'weirlaw7.Ip6Unlike': WHATEVER THE INPUT: true; the input reads as it did. -/
def ip6UnlikeSpec : ChangeSpec := { name := "ip6Unlike", fn := fun _ => fun
  | [d1, d2] => { results := [.lit (.bool true)], args := [d1, d2] }
  | _ => none }
def ip6UnlikeRow : OpenClaim := { program := "ytkiogaglmjeplaadoor", sum := "8730a7b9e88682c2161038416981c8e73882a9a0019f9b5459120cb19387eb5e", func := "weir/weirlaw7.Ip6Unlike", spec := "ip6Unlike", inPlace := ["internal/bytealg.MakeNoZero"], unfollowed := true, recurses := true, named := ["weir/ip6.known"], apart := false, laid := [("weir/ip6.known", laid_weir_ip6_known)] }
def Ip6UnlikeSaid : Prop := ip6UnlikeRow.holds Tryd.pinned (OpenSpec.ofChange ip6UnlikeSpec)

/-- ITS FALSE NEIGHBOUR: 'it returns false'. Refute it at one input. -/
def ip6UnlikeWrong : ChangeSpec := { name := "ip6Unlike", fn := fun _ => fun
  | [d1, d2] => { results := [.lit (.bool false)], args := [d1, d2] }
  | _ => none }
def Ip6UnlikeWrongFalsely : Prop := ip6UnlikeRow.holds Tryd.pinned (OpenSpec.ofChange ip6UnlikeWrong)

/-- 'weirlaw7.Ip6Windows': WHATEVER THE INPUT: true; the input reads as it did. -/
def ip6WindowsSpec : ChangeSpec := { name := "ip6Windows", fn := fun _ => fun
  | [d1, d2] => { results := [.lit (.bool true)], args := [d1, d2] }
  | _ => none }
def ip6WindowsRow : OpenClaim := { program := "ytkiogaglmjeplaadoor", sum := "8730a7b9e88682c2161038416981c8e73882a9a0019f9b5459120cb19387eb5e", func := "weir/weirlaw7.Ip6Windows", spec := "ip6Windows", inPlace := ["internal/bytealg.MakeNoZero"], unfollowed := true, recurses := true, named := ["weir/ip6.known"], apart := false, laid := [("weir/ip6.known", laid_weir_ip6_known)] }
def Ip6WindowsSaid : Prop := ip6WindowsRow.holds Tryd.pinned (OpenSpec.ofChange ip6WindowsSpec)

/-- ITS FALSE NEIGHBOUR: 'it returns false'. Refute it at one input. -/
def ip6WindowsWrong : ChangeSpec := { name := "ip6Windows", fn := fun _ => fun
  | [d1, d2] => { results := [.lit (.bool false)], args := [d1, d2] }
  | _ => none }
def Ip6WindowsWrongFalsely : Prop := ip6WindowsRow.holds Tryd.pinned (OpenSpec.ofChange ip6WindowsWrong)

/-- 'weirlaw7.Ip6Links': WHATEVER THE INPUT: true; the input reads as it did. -/
def ip6LinksSpec : ChangeSpec := { name := "ip6Links", fn := fun _ => fun
  | [d1, d2, d3] => { results := [.lit (.bool true)], args := [d1, d2, d3] }
  | _ => none }
def ip6LinksRow : OpenClaim := { program := "ytkiogaglmjeplaadoor", sum := "8730a7b9e88682c2161038416981c8e73882a9a0019f9b5459120cb19387eb5e", func := "weir/weirlaw7.Ip6Links", spec := "ip6Links", inPlace := ["internal/bytealg.MakeNoZero"], unfollowed := true, recurses := true, named := ["weir/ip6.known"], apart := false, laid := [("weir/ip6.known", laid_weir_ip6_known)] }
def Ip6LinksSaid : Prop := ip6LinksRow.holds Tryd.pinned (OpenSpec.ofChange ip6LinksSpec)

/-- ITS FALSE NEIGHBOUR: 'it returns false'. Refute it at one input. -/
def ip6LinksWrong : ChangeSpec := { name := "ip6Links", fn := fun _ => fun
  | [d1, d2, d3] => { results := [.lit (.bool false)], args := [d1, d2, d3] }
  | _ => none }
def Ip6LinksWrongFalsely : Prop := ip6LinksRow.holds Tryd.pinned (OpenSpec.ofChange ip6LinksWrong)

/-- 'weirlaw7.Ip6Own': WHATEVER THE INPUT: true; the input reads as it did. -/
def ip6OwnSpec : ChangeSpec := { name := "ip6Own", fn := fun _ => fun
  | [d1, d2] => { results := [.lit (.bool true)], args := [d1, d2] }
  | _ => none }
def ip6OwnRow : OpenClaim := { program := "ytkiogaglmjeplaadoor", sum := "8730a7b9e88682c2161038416981c8e73882a9a0019f9b5459120cb19387eb5e", func := "weir/weirlaw7.Ip6Own", spec := "ip6Own", inPlace := ["internal/bytealg.MakeNoZero"], unfollowed := true, recurses := true, named := ["weir/ip6.known"], apart := false, laid := [("weir/ip6.known", laid_weir_ip6_known)] }
def Ip6OwnSaid : Prop := ip6OwnRow.holds Tryd.pinned (OpenSpec.ofChange ip6OwnSpec)

/-- ITS FALSE NEIGHBOUR: 'it returns false'. Refute it at one input. -/
def ip6OwnWrong : ChangeSpec := { name := "ip6Own", fn := fun _ => fun
  | [d1, d2] => { results := [.lit (.bool false)], args := [d1, d2] }
  | _ => none }
def Ip6OwnWrongFalsely : Prop := ip6OwnRow.holds Tryd.pinned (OpenSpec.ofChange ip6OwnWrong)

/-- 'weirlaw7.Ip6Lent': WHATEVER THE INPUT: true; the input reads as it did. -/
def ip6LentSpec : ChangeSpec := { name := "ip6Lent", fn := fun _ => fun
  | [d1, d2, d3, d4] => { results := [.lit (.bool true)], args := [d1, d2, d3, d4] }
  | _ => none }
def ip6LentRow : OpenClaim := { program := "ytkiogaglmjeplaadoor", sum := "8730a7b9e88682c2161038416981c8e73882a9a0019f9b5459120cb19387eb5e", func := "weir/weirlaw7.Ip6Lent", spec := "ip6Lent", inPlace := ["internal/bytealg.MakeNoZero"], unfollowed := true, recurses := true, named := ["weir/ip6.known"], apart := false, laid := [("weir/ip6.known", laid_weir_ip6_known)] }
def Ip6LentSaid : Prop := ip6LentRow.holds Tryd.pinned (OpenSpec.ofChange ip6LentSpec)

/-- ITS FALSE NEIGHBOUR: 'it returns false'. Refute it at one input. -/
def ip6LentWrong : ChangeSpec := { name := "ip6Lent", fn := fun _ => fun
  | [d1, d2, d3, d4] => { results := [.lit (.bool false)], args := [d1, d2, d3, d4] }
  | _ => none }
def Ip6LentWrongFalsely : Prop := ip6LentRow.holds Tryd.pinned (OpenSpec.ofChange ip6LentWrong)

/-- 'weirlaw7.Ip6Canon': WHATEVER THE INPUT: true; the input reads as it did. -/
def ip6CanonSpec : ChangeSpec := { name := "ip6Canon", fn := fun _ => fun
  | [d] => { results := [.lit (.bool true)], args := [d] }
  | _ => none }
def ip6CanonRow : OpenClaim := { program := "ytkiogaglmjeplaadoor", sum := "8730a7b9e88682c2161038416981c8e73882a9a0019f9b5459120cb19387eb5e", func := "weir/weirlaw7.Ip6Canon", spec := "ip6Canon", inPlace := ["internal/bytealg.MakeNoZero"], unfollowed := true, recurses := true, named := ["weir/ip6.known"], apart := false, laid := [("weir/ip6.known", laid_weir_ip6_known)] }
def Ip6CanonSaid : Prop := ip6CanonRow.holds Tryd.pinned (OpenSpec.ofChange ip6CanonSpec)

/-- ITS FALSE NEIGHBOUR: 'it returns false'. Refute it at one input. -/
def ip6CanonWrong : ChangeSpec := { name := "ip6Canon", fn := fun _ => fun
  | [d] => { results := [.lit (.bool false)], args := [d] }
  | _ => none }
def Ip6CanonWrongFalsely : Prop := ip6CanonRow.holds Tryd.pinned (OpenSpec.ofChange ip6CanonWrong)

/-- 'weirlaw7.Ip6Back': WHATEVER THE INPUT: true; the input reads as it did. -/
def ip6BackSpec : ChangeSpec := { name := "ip6Back", fn := fun _ => fun
  | [d] => { results := [.lit (.bool true)], args := [d] }
  | _ => none }
def ip6BackRow : OpenClaim := { program := "ytkiogaglmjeplaadoor", sum := "8730a7b9e88682c2161038416981c8e73882a9a0019f9b5459120cb19387eb5e", func := "weir/weirlaw7.Ip6Back", spec := "ip6Back", inPlace := ["internal/bytealg.MakeNoZero"], unfollowed := true, recurses := true, named := ["weir/ip6.known"], apart := false, laid := [("weir/ip6.known", laid_weir_ip6_known)] }
def Ip6BackSaid : Prop := ip6BackRow.holds Tryd.pinned (OpenSpec.ofChange ip6BackSpec)

/-- ITS FALSE NEIGHBOUR: 'it returns false'. Refute it at one input. -/
def ip6BackWrong : ChangeSpec := { name := "ip6Back", fn := fun _ => fun
  | [d] => { results := [.lit (.bool false)], args := [d] }
  | _ => none }
def Ip6BackWrongFalsely : Prop := ip6BackRow.holds Tryd.pinned (OpenSpec.ofChange ip6BackWrong)

/-- 'weirlaw7.Ip6Hops': WHATEVER THE INPUT: true; the input reads as it did. -/
def ip6HopsSpec : ChangeSpec := { name := "ip6Hops", fn := fun _ => fun
  | [d] => { results := [.lit (.bool true)], args := [d] }
  | _ => none }
def ip6HopsRow : OpenClaim := { program := "ytkiogaglmjeplaadoor", sum := "8730a7b9e88682c2161038416981c8e73882a9a0019f9b5459120cb19387eb5e", func := "weir/weirlaw7.Ip6Hops", spec := "ip6Hops", inPlace := ["internal/bytealg.MakeNoZero"], unfollowed := true, recurses := true, named := ["weir/ip6.known"], apart := false, laid := [("weir/ip6.known", laid_weir_ip6_known)] }
def Ip6HopsSaid : Prop := ip6HopsRow.holds Tryd.pinned (OpenSpec.ofChange ip6HopsSpec)

/-- ITS FALSE NEIGHBOUR: 'it returns false'. Refute it at one input. -/
def ip6HopsWrong : ChangeSpec := { name := "ip6Hops", fn := fun _ => fun
  | [d] => { results := [.lit (.bool false)], args := [d] }
  | _ => none }
def Ip6HopsWrongFalsely : Prop := ip6HopsRow.holds Tryd.pinned (OpenSpec.ofChange ip6HopsWrong)

/-- 'weirlaw7.Ip6Again': WHATEVER THE INPUT: true; the input reads as it did. -/
def ip6AgainSpec : ChangeSpec := { name := "ip6Again", fn := fun _ => fun
  | [d1, d2, d3, d4] => { results := [.lit (.bool true)], args := [d1, d2, d3, d4] }
  | _ => none }
def ip6AgainRow : OpenClaim := { program := "ytkiogaglmjeplaadoor", sum := "8730a7b9e88682c2161038416981c8e73882a9a0019f9b5459120cb19387eb5e", func := "weir/weirlaw7.Ip6Again", spec := "ip6Again", inPlace := ["internal/bytealg.MakeNoZero"], unfollowed := true, recurses := true, named := ["weir/ip6.known"], apart := false, laid := [("weir/ip6.known", laid_weir_ip6_known)] }
def Ip6AgainSaid : Prop := ip6AgainRow.holds Tryd.pinned (OpenSpec.ofChange ip6AgainSpec)

/-- ITS FALSE NEIGHBOUR: 'it returns false'. Refute it at one input. -/
def ip6AgainWrong : ChangeSpec := { name := "ip6Again", fn := fun _ => fun
  | [d1, d2, d3, d4] => { results := [.lit (.bool false)], args := [d1, d2, d3, d4] }
  | _ => none }
def Ip6AgainWrongFalsely : Prop := ip6AgainRow.holds Tryd.pinned (OpenSpec.ofChange ip6AgainWrong)

/- THE SECOND FORM. 'bulk': how many values and letters a reading holds, each counted each time it is reached (what is shared counts as often as it is met; a slice's spare places count too). A statement '..UptoSaid' is the law's where the arguments, and the package variables that the reading takes, are together of bulk at most 1048576: NARROWER than '..Said'. Prove '..Said' where nothing that the law and all that it calls make is longer than what came in: it says more and counts as full. Else prove '..UptoSaid'. A law counts once. -/
mutual
def uptoBulk {H : Type} : DataW H → Nat
  | .lit (.string bytes) => bytes.length + 1
  | .lit _ => 1
  | .nil => 1
  | .ptr d => uptoBulk d + 1
  | .slice elems spare => uptoBulkAll elems + uptoBulkAll spare + 1
  | .agg parts => uptoBulkAll parts + 1
  | .iface _ d => uptoBulk d + 1
  | .map entries => uptoBulkEntries entries + 1
  | .held _ => 1
def uptoBulkAll {H : Type} : List (DataW H) → Nat
  | [] => 0
  | d :: r => uptoBulk d + uptoBulkAll r
def uptoBulkEntries {H : Type} : List (Lit × DataW H) → Nat
  | [] => 0
  | x :: r => uptoBulkEntry x + uptoBulkEntries r
def uptoBulkEntry {H : Type} : Lit × DataW H → Nat
  | (.string bytes, d) => bytes.length + uptoBulk d + 1
  | (_, d) => uptoBulk d + 1
 end
def uptoSmall : (H : Type) → List (DataW H) → Bool := fun _ ds => decide (uptoBulkAll ds ≤ 1048576)
def OpenSpec.upto (s : _root_.Go.ChangeSpec) : _root_.Go.OpenSpec := { _root_.Go.OpenSpec.ofChange s with cond := some uptoSmall }

/-- 'weirlaw7.Ip6Short', WHERE WHAT IT READS IS OF BULK AT MOST 1048576: true; the input reads as it did. -/
def ip6ShortUptoRow : OpenClaim := { program := "ytkiogaglmjeplaadoor", sum := "8730a7b9e88682c2161038416981c8e73882a9a0019f9b5459120cb19387eb5e", func := "weir/weirlaw7.Ip6Short", spec := "ip6Short", inPlace := ["internal/bytealg.MakeNoZero"], unfollowed := true, recurses := true, named := ["weir/ip6.known"], apart := false, laid := [("weir/ip6.known", laid_weir_ip6_known)], narrowed := true }
def Ip6ShortUptoSaid : Prop := ip6ShortUptoRow.holds Tryd.pinned (OpenSpec.upto ip6ShortSpec)

/-- 'weirlaw7.Ip6Unlike', WHERE WHAT IT READS IS OF BULK AT MOST 1048576: true; the input reads as it did. -/
def ip6UnlikeUptoRow : OpenClaim := { program := "ytkiogaglmjeplaadoor", sum := "8730a7b9e88682c2161038416981c8e73882a9a0019f9b5459120cb19387eb5e", func := "weir/weirlaw7.Ip6Unlike", spec := "ip6Unlike", inPlace := ["internal/bytealg.MakeNoZero"], unfollowed := true, recurses := true, named := ["weir/ip6.known"], apart := false, laid := [("weir/ip6.known", laid_weir_ip6_known)], narrowed := true }
def Ip6UnlikeUptoSaid : Prop := ip6UnlikeUptoRow.holds Tryd.pinned (OpenSpec.upto ip6UnlikeSpec)

/-- 'weirlaw7.Ip6Windows', WHERE WHAT IT READS IS OF BULK AT MOST 1048576: true; the input reads as it did. -/
def ip6WindowsUptoRow : OpenClaim := { program := "ytkiogaglmjeplaadoor", sum := "8730a7b9e88682c2161038416981c8e73882a9a0019f9b5459120cb19387eb5e", func := "weir/weirlaw7.Ip6Windows", spec := "ip6Windows", inPlace := ["internal/bytealg.MakeNoZero"], unfollowed := true, recurses := true, named := ["weir/ip6.known"], apart := false, laid := [("weir/ip6.known", laid_weir_ip6_known)], narrowed := true }
def Ip6WindowsUptoSaid : Prop := ip6WindowsUptoRow.holds Tryd.pinned (OpenSpec.upto ip6WindowsSpec)

/-- 'weirlaw7.Ip6Links', WHERE WHAT IT READS IS OF BULK AT MOST 1048576: true; the input reads as it did. -/
def ip6LinksUptoRow : OpenClaim := { program := "ytkiogaglmjeplaadoor", sum := "8730a7b9e88682c2161038416981c8e73882a9a0019f9b5459120cb19387eb5e", func := "weir/weirlaw7.Ip6Links", spec := "ip6Links", inPlace := ["internal/bytealg.MakeNoZero"], unfollowed := true, recurses := true, named := ["weir/ip6.known"], apart := false, laid := [("weir/ip6.known", laid_weir_ip6_known)], narrowed := true }
def Ip6LinksUptoSaid : Prop := ip6LinksUptoRow.holds Tryd.pinned (OpenSpec.upto ip6LinksSpec)

/-- 'weirlaw7.Ip6Own', WHERE WHAT IT READS IS OF BULK AT MOST 1048576: true; the input reads as it did. -/
def ip6OwnUptoRow : OpenClaim := { program := "ytkiogaglmjeplaadoor", sum := "8730a7b9e88682c2161038416981c8e73882a9a0019f9b5459120cb19387eb5e", func := "weir/weirlaw7.Ip6Own", spec := "ip6Own", inPlace := ["internal/bytealg.MakeNoZero"], unfollowed := true, recurses := true, named := ["weir/ip6.known"], apart := false, laid := [("weir/ip6.known", laid_weir_ip6_known)], narrowed := true }
def Ip6OwnUptoSaid : Prop := ip6OwnUptoRow.holds Tryd.pinned (OpenSpec.upto ip6OwnSpec)

/-- 'weirlaw7.Ip6Lent', WHERE WHAT IT READS IS OF BULK AT MOST 1048576: true; the input reads as it did. -/
def ip6LentUptoRow : OpenClaim := { program := "ytkiogaglmjeplaadoor", sum := "8730a7b9e88682c2161038416981c8e73882a9a0019f9b5459120cb19387eb5e", func := "weir/weirlaw7.Ip6Lent", spec := "ip6Lent", inPlace := ["internal/bytealg.MakeNoZero"], unfollowed := true, recurses := true, named := ["weir/ip6.known"], apart := false, laid := [("weir/ip6.known", laid_weir_ip6_known)], narrowed := true }
def Ip6LentUptoSaid : Prop := ip6LentUptoRow.holds Tryd.pinned (OpenSpec.upto ip6LentSpec)

/-- 'weirlaw7.Ip6Canon', WHERE WHAT IT READS IS OF BULK AT MOST 1048576: true; the input reads as it did. -/
def ip6CanonUptoRow : OpenClaim := { program := "ytkiogaglmjeplaadoor", sum := "8730a7b9e88682c2161038416981c8e73882a9a0019f9b5459120cb19387eb5e", func := "weir/weirlaw7.Ip6Canon", spec := "ip6Canon", inPlace := ["internal/bytealg.MakeNoZero"], unfollowed := true, recurses := true, named := ["weir/ip6.known"], apart := false, laid := [("weir/ip6.known", laid_weir_ip6_known)], narrowed := true }
def Ip6CanonUptoSaid : Prop := ip6CanonUptoRow.holds Tryd.pinned (OpenSpec.upto ip6CanonSpec)

/-- 'weirlaw7.Ip6Back', WHERE WHAT IT READS IS OF BULK AT MOST 1048576: true; the input reads as it did. -/
def ip6BackUptoRow : OpenClaim := { program := "ytkiogaglmjeplaadoor", sum := "8730a7b9e88682c2161038416981c8e73882a9a0019f9b5459120cb19387eb5e", func := "weir/weirlaw7.Ip6Back", spec := "ip6Back", inPlace := ["internal/bytealg.MakeNoZero"], unfollowed := true, recurses := true, named := ["weir/ip6.known"], apart := false, laid := [("weir/ip6.known", laid_weir_ip6_known)], narrowed := true }
def Ip6BackUptoSaid : Prop := ip6BackUptoRow.holds Tryd.pinned (OpenSpec.upto ip6BackSpec)

/-- 'weirlaw7.Ip6Hops', WHERE WHAT IT READS IS OF BULK AT MOST 1048576: true; the input reads as it did. -/
def ip6HopsUptoRow : OpenClaim := { program := "ytkiogaglmjeplaadoor", sum := "8730a7b9e88682c2161038416981c8e73882a9a0019f9b5459120cb19387eb5e", func := "weir/weirlaw7.Ip6Hops", spec := "ip6Hops", inPlace := ["internal/bytealg.MakeNoZero"], unfollowed := true, recurses := true, named := ["weir/ip6.known"], apart := false, laid := [("weir/ip6.known", laid_weir_ip6_known)], narrowed := true }
def Ip6HopsUptoSaid : Prop := ip6HopsUptoRow.holds Tryd.pinned (OpenSpec.upto ip6HopsSpec)

/-- 'weirlaw7.Ip6Again', WHERE WHAT IT READS IS OF BULK AT MOST 1048576: true; the input reads as it did. -/
def ip6AgainUptoRow : OpenClaim := { program := "ytkiogaglmjeplaadoor", sum := "8730a7b9e88682c2161038416981c8e73882a9a0019f9b5459120cb19387eb5e", func := "weir/weirlaw7.Ip6Again", spec := "ip6Again", inPlace := ["internal/bytealg.MakeNoZero"], unfollowed := true, recurses := true, named := ["weir/ip6.known"], apart := false, laid := [("weir/ip6.known", laid_weir_ip6_known)], narrowed := true }
def Ip6AgainUptoSaid : Prop := ip6AgainUptoRow.holds Tryd.pinned (OpenSpec.upto ip6AgainSpec)

end Rows
end Go.Proofs.YtkiogaglmjeplaaDoor
