/-
  No cell of these rows narrows 'for every input' (looked for: loops, veiled, ifaces, maps, wideKeys, modest, calm, conditions, laid).
  DERIVED. THE GIVEN ROWS OF THIS SEAT. 13 by the template 'for every input the law returns true; each argument reads behind the call as it read before'; 0 by the template 'total and deterministic' (their statements: YtdchpilghgnnoaaTotals.lean).
  GIVEN WITH THE SEED: the statements are not yours to turn. If you find one false, say at which input.
  Laid BY PROGRAM, IN A SANDBOX (cutbox-rows.mjs): the forced cells as the released guide's own fill.sh prints them over the translation d2f8806c064d614e… (all of the seat's roots in one cut). By AI agents, Wed Nov 11 2026. No macro, syntax, notation, axiom, sorry.
-/
import Derived.Test.YtdchpilghgnnoaaChecked
import GoSem.Claim
import GoSem.ClaimJoined
import GoSem.ClaimMapViews
import Derived.JoinedTies
import Derived.KernelRfl
namespace Go.Proofs.Ytdchpilghgnnoaa
/- THE CELL 'sum', in the pinned program and in every row, IS THE sha256 OF THE DUMP (.gsa) THAT YtdchpilghgnnoaaProg.lean LOADS. Nothing in Lean hashes anything: it is a label: what it is worth is what the hold of that sum in a sandbox is worth. -/
noncomputable def Try.pinned : Pinned := { name := "ytdchpilghgnnoaa", sum := "d2f8806c064d614e1dbd4122d5abb583965bd49e1ca81b6be63a574632de4db3", checked := Try.checked }
namespace Rows
def none {H : Type} : Left H := { results := [], args := [] }

/-- 'weirlaw1.ViewCursors': WHATEVER THE INPUT: true; the input reads as it did. -/
def viewCursorsSpec : ChangeSpec := { name := "viewCursors", fn := fun _ => fun
  | [d1, d2, d3] => { results := [.lit (.bool true)], args := [d1, d2, d3] }
  | _ => none }
def viewCursorsRow : OpenClaim := { program := "ytdchpilghgnnoaa", sum := "d2f8806c064d614e1dbd4122d5abb583965bd49e1ca81b6be63a574632de4db3", func := "weir/weirlaw1.ViewCursors", spec := "viewCursors", unfollowed := true, recurses := true, apart := false }
def ViewCursorsSaid : Prop := viewCursorsRow.holds Try.pinned (OpenSpec.ofChange viewCursorsSpec)

/-- ITS FALSE NEIGHBOUR: 'it returns false'. Refute it at one input. -/
def viewCursorsWrong : ChangeSpec := { name := "viewCursors", fn := fun _ => fun
  | [d1, d2, d3] => { results := [.lit (.bool false)], args := [d1, d2, d3] }
  | _ => none }
def ViewCursorsWrongFalsely : Prop := viewCursorsRow.holds Try.pinned (OpenSpec.ofChange viewCursorsWrong)

/-- 'weirlaw1.ViewBuilders': WHATEVER THE INPUT: true; the input reads as it did. -/
def viewBuildersSpec : ChangeSpec := { name := "viewBuilders", fn := fun _ => fun
  | [d1, d2, d3] => { results := [.lit (.bool true)], args := [d1, d2, d3] }
  | _ => none }
def viewBuildersRow : OpenClaim := { program := "ytdchpilghgnnoaa", sum := "d2f8806c064d614e1dbd4122d5abb583965bd49e1ca81b6be63a574632de4db3", func := "weir/weirlaw1.ViewBuilders", spec := "viewBuilders", unfollowed := true, recurses := true, apart := false }
def ViewBuildersSaid : Prop := viewBuildersRow.holds Try.pinned (OpenSpec.ofChange viewBuildersSpec)

/-- ITS FALSE NEIGHBOUR: 'it returns false'. Refute it at one input. -/
def viewBuildersWrong : ChangeSpec := { name := "viewBuilders", fn := fun _ => fun
  | [d1, d2, d3] => { results := [.lit (.bool false)], args := [d1, d2, d3] }
  | _ => none }
def ViewBuildersWrongFalsely : Prop := viewBuildersRow.holds Try.pinned (OpenSpec.ofChange viewBuildersWrong)

/-- 'weirlaw1.ViewBeside': WHATEVER THE INPUT: true; the input reads as it did. -/
def viewBesideSpec : ChangeSpec := { name := "viewBeside", fn := fun _ => fun
  | [d1, d2, d3, d4, d5] => { results := [.lit (.bool true)], args := [d1, d2, d3, d4, d5] }
  | _ => none }
def viewBesideRow : OpenClaim := { program := "ytdchpilghgnnoaa", sum := "d2f8806c064d614e1dbd4122d5abb583965bd49e1ca81b6be63a574632de4db3", func := "weir/weirlaw1.ViewBeside", spec := "viewBeside", unfollowed := true, recurses := true, apart := false }
def ViewBesideSaid : Prop := viewBesideRow.holds Try.pinned (OpenSpec.ofChange viewBesideSpec)

/-- ITS FALSE NEIGHBOUR: 'it returns false'. Refute it at one input. -/
def viewBesideWrong : ChangeSpec := { name := "viewBeside", fn := fun _ => fun
  | [d1, d2, d3, d4, d5] => { results := [.lit (.bool false)], args := [d1, d2, d3, d4, d5] }
  | _ => none }
def ViewBesideWrongFalsely : Prop := viewBesideRow.holds Try.pinned (OpenSpec.ofChange viewBesideWrong)

/-- 'weirlaw1.ViewBack': WHATEVER THE INPUT: true; the input reads as it did. -/
def viewBackSpec : ChangeSpec := { name := "viewBack", fn := fun _ => fun
  | [d1, d2, d3, d4] => { results := [.lit (.bool true)], args := [d1, d2, d3, d4] }
  | _ => none }
def viewBackRow : OpenClaim := { program := "ytdchpilghgnnoaa", sum := "d2f8806c064d614e1dbd4122d5abb583965bd49e1ca81b6be63a574632de4db3", func := "weir/weirlaw1.ViewBack", spec := "viewBack", unfollowed := true, recurses := true, apart := false }
def ViewBackSaid : Prop := viewBackRow.holds Try.pinned (OpenSpec.ofChange viewBackSpec)

/-- ITS FALSE NEIGHBOUR: 'it returns false'. Refute it at one input. -/
def viewBackWrong : ChangeSpec := { name := "viewBack", fn := fun _ => fun
  | [d1, d2, d3, d4] => { results := [.lit (.bool false)], args := [d1, d2, d3, d4] }
  | _ => none }
def ViewBackWrongFalsely : Prop := viewBackRow.holds Try.pinned (OpenSpec.ofChange viewBackWrong)

/-- 'weirlaw1.ViewOneWay': WHATEVER THE INPUT: true; the input reads as it did. -/
def viewOneWaySpec : ChangeSpec := { name := "viewOneWay", fn := fun _ => fun
  | [d1, d2, d3] => { results := [.lit (.bool true)], args := [d1, d2, d3] }
  | _ => none }
def viewOneWayRow : OpenClaim := { program := "ytdchpilghgnnoaa", sum := "d2f8806c064d614e1dbd4122d5abb583965bd49e1ca81b6be63a574632de4db3", func := "weir/weirlaw1.ViewOneWay", spec := "viewOneWay", unfollowed := true, recurses := true, apart := false }
def ViewOneWaySaid : Prop := viewOneWayRow.holds Try.pinned (OpenSpec.ofChange viewOneWaySpec)

/-- ITS FALSE NEIGHBOUR: 'it returns false'. Refute it at one input. -/
def viewOneWayWrong : ChangeSpec := { name := "viewOneWay", fn := fun _ => fun
  | [d1, d2, d3] => { results := [.lit (.bool false)], args := [d1, d2, d3] }
  | _ => none }
def ViewOneWayWrongFalsely : Prop := viewOneWayRow.holds Try.pinned (OpenSpec.ofChange viewOneWayWrong)

/-- 'weirlaw1.ViewShares': WHATEVER THE INPUT: true; the input reads as it did. -/
def viewSharesSpec : ChangeSpec := { name := "viewShares", fn := fun _ => fun
  | [d1, d2, d3, d4, d5] => { results := [.lit (.bool true)], args := [d1, d2, d3, d4, d5] }
  | _ => none }
def viewSharesRow : OpenClaim := { program := "ytdchpilghgnnoaa", sum := "d2f8806c064d614e1dbd4122d5abb583965bd49e1ca81b6be63a574632de4db3", func := "weir/weirlaw1.ViewShares", spec := "viewShares", unfollowed := true, recurses := true, apart := false }
def ViewSharesSaid : Prop := viewSharesRow.holds Try.pinned (OpenSpec.ofChange viewSharesSpec)

/-- ITS FALSE NEIGHBOUR: 'it returns false'. Refute it at one input. -/
def viewSharesWrong : ChangeSpec := { name := "viewShares", fn := fun _ => fun
  | [d1, d2, d3, d4, d5] => { results := [.lit (.bool false)], args := [d1, d2, d3, d4, d5] }
  | _ => none }
def ViewSharesWrongFalsely : Prop := viewSharesRow.holds Try.pinned (OpenSpec.ofChange viewSharesWrong)

/-- 'weirlaw1.ViewLooks': WHATEVER THE INPUT: true; the input reads as it did. -/
def viewLooksSpec : ChangeSpec := { name := "viewLooks", fn := fun _ => fun
  | [d] => { results := [.lit (.bool true)], args := [d] }
  | _ => none }
def viewLooksRow : OpenClaim := { program := "ytdchpilghgnnoaa", sum := "d2f8806c064d614e1dbd4122d5abb583965bd49e1ca81b6be63a574632de4db3", func := "weir/weirlaw1.ViewLooks", spec := "viewLooks", unfollowed := true, recurses := true, apart := false }
def ViewLooksSaid : Prop := viewLooksRow.holds Try.pinned (OpenSpec.ofChange viewLooksSpec)

/-- ITS FALSE NEIGHBOUR: 'it returns false'. Refute it at one input. -/
def viewLooksWrong : ChangeSpec := { name := "viewLooks", fn := fun _ => fun
  | [d] => { results := [.lit (.bool false)], args := [d] }
  | _ => none }
def ViewLooksWrongFalsely : Prop := viewLooksRow.holds Try.pinned (OpenSpec.ofChange viewLooksWrong)

/-- 'weirlaw1.ViewFields': WHATEVER THE INPUT: true; the input reads as it did. -/
def viewFieldsSpec : ChangeSpec := { name := "viewFields", fn := fun _ => fun
  | [d] => { results := [.lit (.bool true)], args := [d] }
  | _ => none }
def viewFieldsRow : OpenClaim := { program := "ytdchpilghgnnoaa", sum := "d2f8806c064d614e1dbd4122d5abb583965bd49e1ca81b6be63a574632de4db3", func := "weir/weirlaw1.ViewFields", spec := "viewFields", unfollowed := true, recurses := true, apart := false }
def ViewFieldsSaid : Prop := viewFieldsRow.holds Try.pinned (OpenSpec.ofChange viewFieldsSpec)

/-- ITS FALSE NEIGHBOUR: 'it returns false'. Refute it at one input. -/
def viewFieldsWrong : ChangeSpec := { name := "viewFields", fn := fun _ => fun
  | [d] => { results := [.lit (.bool false)], args := [d] }
  | _ => none }
def ViewFieldsWrongFalsely : Prop := viewFieldsRow.holds Try.pinned (OpenSpec.ofChange viewFieldsWrong)

/-- 'weirlaw1.ViewPlays': WHATEVER THE INPUT: true; the input reads as it did. -/
def viewPlaysSpec : ChangeSpec := { name := "viewPlays", fn := fun _ => fun
  | [d] => { results := [.lit (.bool true)], args := [d] }
  | _ => none }
def viewPlaysRow : OpenClaim := { program := "ytdchpilghgnnoaa", sum := "d2f8806c064d614e1dbd4122d5abb583965bd49e1ca81b6be63a574632de4db3", func := "weir/weirlaw1.ViewPlays", spec := "viewPlays", unfollowed := true, recurses := true, apart := false }
def ViewPlaysSaid : Prop := viewPlaysRow.holds Try.pinned (OpenSpec.ofChange viewPlaysSpec)

/-- ITS FALSE NEIGHBOUR: 'it returns false'. Refute it at one input. -/
def viewPlaysWrong : ChangeSpec := { name := "viewPlays", fn := fun _ => fun
  | [d] => { results := [.lit (.bool false)], args := [d] }
  | _ => none }
def ViewPlaysWrongFalsely : Prop := viewPlaysRow.holds Try.pinned (OpenSpec.ofChange viewPlaysWrong)

/-- 'weirlaw1.ViewAgain': WHATEVER THE INPUT: true; the input reads as it did. -/
def viewAgainSpec : ChangeSpec := { name := "viewAgain", fn := fun _ => fun
  | [d1, d2, d3] => { results := [.lit (.bool true)], args := [d1, d2, d3] }
  | _ => none }
def viewAgainRow : OpenClaim := { program := "ytdchpilghgnnoaa", sum := "d2f8806c064d614e1dbd4122d5abb583965bd49e1ca81b6be63a574632de4db3", func := "weir/weirlaw1.ViewAgain", spec := "viewAgain", unfollowed := true, recurses := true, apart := false }
def ViewAgainSaid : Prop := viewAgainRow.holds Try.pinned (OpenSpec.ofChange viewAgainSpec)

/-- ITS FALSE NEIGHBOUR: 'it returns false'. Refute it at one input. -/
def viewAgainWrong : ChangeSpec := { name := "viewAgain", fn := fun _ => fun
  | [d1, d2, d3] => { results := [.lit (.bool false)], args := [d1, d2, d3] }
  | _ => none }
def ViewAgainWrongFalsely : Prop := viewAgainRow.holds Try.pinned (OpenSpec.ofChange viewAgainWrong)

/-- 'weirlaw1.ViewOwn': WHATEVER THE INPUT: true; the input reads as it did. -/
def viewOwnSpec : ChangeSpec := { name := "viewOwn", fn := fun _ => fun
  | [d1, d2, d3] => { results := [.lit (.bool true)], args := [d1, d2, d3] }
  | _ => none }
def viewOwnRow : OpenClaim := { program := "ytdchpilghgnnoaa", sum := "d2f8806c064d614e1dbd4122d5abb583965bd49e1ca81b6be63a574632de4db3", func := "weir/weirlaw1.ViewOwn", spec := "viewOwn", unfollowed := true, recurses := true, apart := false }
def ViewOwnSaid : Prop := viewOwnRow.holds Try.pinned (OpenSpec.ofChange viewOwnSpec)

/-- ITS FALSE NEIGHBOUR: 'it returns false'. Refute it at one input. -/
def viewOwnWrong : ChangeSpec := { name := "viewOwn", fn := fun _ => fun
  | [d1, d2, d3] => { results := [.lit (.bool false)], args := [d1, d2, d3] }
  | _ => none }
def ViewOwnWrongFalsely : Prop := viewOwnRow.holds Try.pinned (OpenSpec.ofChange viewOwnWrong)

/-- 'weirlaw1.ViewLent': WHATEVER THE INPUT: true; the input reads as it did. -/
def viewLentSpec : ChangeSpec := { name := "viewLent", fn := fun _ => fun
  | [d1, d2, d3, d4, d5, d6] => { results := [.lit (.bool true)], args := [d1, d2, d3, d4, d5, d6] }
  | _ => none }
def viewLentRow : OpenClaim := { program := "ytdchpilghgnnoaa", sum := "d2f8806c064d614e1dbd4122d5abb583965bd49e1ca81b6be63a574632de4db3", func := "weir/weirlaw1.ViewLent", spec := "viewLent", unfollowed := true, recurses := true, apart := false }
def ViewLentSaid : Prop := viewLentRow.holds Try.pinned (OpenSpec.ofChange viewLentSpec)

/-- ITS FALSE NEIGHBOUR: 'it returns false'. Refute it at one input. -/
def viewLentWrong : ChangeSpec := { name := "viewLent", fn := fun _ => fun
  | [d1, d2, d3, d4, d5, d6] => { results := [.lit (.bool false)], args := [d1, d2, d3, d4, d5, d6] }
  | _ => none }
def ViewLentWrongFalsely : Prop := viewLentRow.holds Try.pinned (OpenSpec.ofChange viewLentWrong)

/-- 'weirlaw1.ViewMany': WHATEVER THE INPUT: true; the input reads as it did. -/
def viewManySpec : ChangeSpec := { name := "viewMany", fn := fun _ => fun
  | [d1, d2] => { results := [.lit (.bool true)], args := [d1, d2] }
  | _ => none }
def viewManyRow : OpenClaim := { program := "ytdchpilghgnnoaa", sum := "d2f8806c064d614e1dbd4122d5abb583965bd49e1ca81b6be63a574632de4db3", func := "weir/weirlaw1.ViewMany", spec := "viewMany", unfollowed := true, recurses := true, apart := false }
def ViewManySaid : Prop := viewManyRow.holds Try.pinned (OpenSpec.ofChange viewManySpec)

/-- ITS FALSE NEIGHBOUR: 'it returns false'. Refute it at one input. -/
def viewManyWrong : ChangeSpec := { name := "viewMany", fn := fun _ => fun
  | [d1, d2] => { results := [.lit (.bool false)], args := [d1, d2] }
  | _ => none }
def ViewManyWrongFalsely : Prop := viewManyRow.holds Try.pinned (OpenSpec.ofChange viewManyWrong)

/- THE SECOND FORM. 'bulk': how many values and letters a reading holds, each counted each time it is reached (what is shared counts as often as it is met; a slice's spare places count too). A statement '..UptoSaid' is the law's where the arguments, and the package variables that the reading takes, are together of bulk at most 1048576: NARROWER than '..Said'. Prove '..Said' where nothing that the law and all that it calls make is longer than what came in: it says more and counts as full. Else prove '..UptoSaid'. A law counts once. -/
mutual
def uptoBulk {H : Type} : DataW H → Nat
  | .lit (.string bytes) => bytes.length + 1
  | .lit _ => 1
  | .nil => 1
  | .ptr d => uptoBulk d + 1
  | .slice elems spare => uptoBulkAll elems + uptoBulkAll spare + 1
  | .agg parts => uptoBulkAll parts + 1
  | .iface _ d => uptoBulk d + 1
  | .map entries => uptoBulkEntries entries + 1
  | .held _ => 1
def uptoBulkAll {H : Type} : List (DataW H) → Nat
  | [] => 0
  | d :: r => uptoBulk d + uptoBulkAll r
def uptoBulkEntries {H : Type} : List (Lit × DataW H) → Nat
  | [] => 0
  | x :: r => uptoBulkEntry x + uptoBulkEntries r
def uptoBulkEntry {H : Type} : Lit × DataW H → Nat
  | (.string bytes, d) => bytes.length + uptoBulk d + 1
  | (_, d) => uptoBulk d + 1
 end
def uptoSmall : (H : Type) → List (DataW H) → Bool := fun _ ds => decide (uptoBulkAll ds ≤ 1048576)
def OpenSpec.upto (s : _root_.Go.ChangeSpec) : _root_.Go.OpenSpec := { _root_.Go.OpenSpec.ofChange s with cond := some uptoSmall }

/-- 'weirlaw1.ViewCursors', WHERE WHAT IT READS IS OF BULK AT MOST 1048576: true; the input reads as it did. -/
def viewCursorsUptoRow : OpenClaim := { program := "ytdchpilghgnnoaa", sum := "d2f8806c064d614e1dbd4122d5abb583965bd49e1ca81b6be63a574632de4db3", func := "weir/weirlaw1.ViewCursors", spec := "viewCursors", unfollowed := true, recurses := true, apart := false, narrowed := true }
def ViewCursorsUptoSaid : Prop := viewCursorsUptoRow.holds Try.pinned (OpenSpec.upto viewCursorsSpec)

/-- 'weirlaw1.ViewBuilders', WHERE WHAT IT READS IS OF BULK AT MOST 1048576: true; the input reads as it did. -/
def viewBuildersUptoRow : OpenClaim := { program := "ytdchpilghgnnoaa", sum := "d2f8806c064d614e1dbd4122d5abb583965bd49e1ca81b6be63a574632de4db3", func := "weir/weirlaw1.ViewBuilders", spec := "viewBuilders", unfollowed := true, recurses := true, apart := false, narrowed := true }
def ViewBuildersUptoSaid : Prop := viewBuildersUptoRow.holds Try.pinned (OpenSpec.upto viewBuildersSpec)

/-- 'weirlaw1.ViewBeside', WHERE WHAT IT READS IS OF BULK AT MOST 1048576: true; the input reads as it did. -/
def viewBesideUptoRow : OpenClaim := { program := "ytdchpilghgnnoaa", sum := "d2f8806c064d614e1dbd4122d5abb583965bd49e1ca81b6be63a574632de4db3", func := "weir/weirlaw1.ViewBeside", spec := "viewBeside", unfollowed := true, recurses := true, apart := false, narrowed := true }
def ViewBesideUptoSaid : Prop := viewBesideUptoRow.holds Try.pinned (OpenSpec.upto viewBesideSpec)

/-- 'weirlaw1.ViewBack', WHERE WHAT IT READS IS OF BULK AT MOST 1048576: true; the input reads as it did. -/
def viewBackUptoRow : OpenClaim := { program := "ytdchpilghgnnoaa", sum := "d2f8806c064d614e1dbd4122d5abb583965bd49e1ca81b6be63a574632de4db3", func := "weir/weirlaw1.ViewBack", spec := "viewBack", unfollowed := true, recurses := true, apart := false, narrowed := true }
def ViewBackUptoSaid : Prop := viewBackUptoRow.holds Try.pinned (OpenSpec.upto viewBackSpec)

/-- 'weirlaw1.ViewOneWay', WHERE WHAT IT READS IS OF BULK AT MOST 1048576: true; the input reads as it did. -/
def viewOneWayUptoRow : OpenClaim := { program := "ytdchpilghgnnoaa", sum := "d2f8806c064d614e1dbd4122d5abb583965bd49e1ca81b6be63a574632de4db3", func := "weir/weirlaw1.ViewOneWay", spec := "viewOneWay", unfollowed := true, recurses := true, apart := false, narrowed := true }
def ViewOneWayUptoSaid : Prop := viewOneWayUptoRow.holds Try.pinned (OpenSpec.upto viewOneWaySpec)

/-- 'weirlaw1.ViewShares', WHERE WHAT IT READS IS OF BULK AT MOST 1048576: true; the input reads as it did. -/
def viewSharesUptoRow : OpenClaim := { program := "ytdchpilghgnnoaa", sum := "d2f8806c064d614e1dbd4122d5abb583965bd49e1ca81b6be63a574632de4db3", func := "weir/weirlaw1.ViewShares", spec := "viewShares", unfollowed := true, recurses := true, apart := false, narrowed := true }
def ViewSharesUptoSaid : Prop := viewSharesUptoRow.holds Try.pinned (OpenSpec.upto viewSharesSpec)

/-- 'weirlaw1.ViewLooks', WHERE WHAT IT READS IS OF BULK AT MOST 1048576: true; the input reads as it did. -/
def viewLooksUptoRow : OpenClaim := { program := "ytdchpilghgnnoaa", sum := "d2f8806c064d614e1dbd4122d5abb583965bd49e1ca81b6be63a574632de4db3", func := "weir/weirlaw1.ViewLooks", spec := "viewLooks", unfollowed := true, recurses := true, apart := false, narrowed := true }
def ViewLooksUptoSaid : Prop := viewLooksUptoRow.holds Try.pinned (OpenSpec.upto viewLooksSpec)

/-- 'weirlaw1.ViewFields', WHERE WHAT IT READS IS OF BULK AT MOST 1048576: true; the input reads as it did. -/
def viewFieldsUptoRow : OpenClaim := { program := "ytdchpilghgnnoaa", sum := "d2f8806c064d614e1dbd4122d5abb583965bd49e1ca81b6be63a574632de4db3", func := "weir/weirlaw1.ViewFields", spec := "viewFields", unfollowed := true, recurses := true, apart := false, narrowed := true }
def ViewFieldsUptoSaid : Prop := viewFieldsUptoRow.holds Try.pinned (OpenSpec.upto viewFieldsSpec)

/-- 'weirlaw1.ViewPlays', WHERE WHAT IT READS IS OF BULK AT MOST 1048576: true; the input reads as it did. -/
def viewPlaysUptoRow : OpenClaim := { program := "ytdchpilghgnnoaa", sum := "d2f8806c064d614e1dbd4122d5abb583965bd49e1ca81b6be63a574632de4db3", func := "weir/weirlaw1.ViewPlays", spec := "viewPlays", unfollowed := true, recurses := true, apart := false, narrowed := true }
def ViewPlaysUptoSaid : Prop := viewPlaysUptoRow.holds Try.pinned (OpenSpec.upto viewPlaysSpec)

/-- 'weirlaw1.ViewAgain', WHERE WHAT IT READS IS OF BULK AT MOST 1048576: true; the input reads as it did. -/
def viewAgainUptoRow : OpenClaim := { program := "ytdchpilghgnnoaa", sum := "d2f8806c064d614e1dbd4122d5abb583965bd49e1ca81b6be63a574632de4db3", func := "weir/weirlaw1.ViewAgain", spec := "viewAgain", unfollowed := true, recurses := true, apart := false, narrowed := true }
def ViewAgainUptoSaid : Prop := viewAgainUptoRow.holds Try.pinned (OpenSpec.upto viewAgainSpec)

/-- 'weirlaw1.ViewOwn', WHERE WHAT IT READS IS OF BULK AT MOST 1048576: true; the input reads as it did. -/
def viewOwnUptoRow : OpenClaim := { program := "ytdchpilghgnnoaa", sum := "d2f8806c064d614e1dbd4122d5abb583965bd49e1ca81b6be63a574632de4db3", func := "weir/weirlaw1.ViewOwn", spec := "viewOwn", unfollowed := true, recurses := true, apart := false, narrowed := true }
def ViewOwnUptoSaid : Prop := viewOwnUptoRow.holds Try.pinned (OpenSpec.upto viewOwnSpec)

/-- 'weirlaw1.ViewLent', WHERE WHAT IT READS IS OF BULK AT MOST 1048576: true; the input reads as it did. -/
def viewLentUptoRow : OpenClaim := { program := "ytdchpilghgnnoaa", sum := "d2f8806c064d614e1dbd4122d5abb583965bd49e1ca81b6be63a574632de4db3", func := "weir/weirlaw1.ViewLent", spec := "viewLent", unfollowed := true, recurses := true, apart := false, narrowed := true }
def ViewLentUptoSaid : Prop := viewLentUptoRow.holds Try.pinned (OpenSpec.upto viewLentSpec)

/-- 'weirlaw1.ViewMany', WHERE WHAT IT READS IS OF BULK AT MOST 1048576: true; the input reads as it did. -/
def viewManyUptoRow : OpenClaim := { program := "ytdchpilghgnnoaa", sum := "d2f8806c064d614e1dbd4122d5abb583965bd49e1ca81b6be63a574632de4db3", func := "weir/weirlaw1.ViewMany", spec := "viewMany", unfollowed := true, recurses := true, apart := false, narrowed := true }
def ViewManyUptoSaid : Prop := viewManyUptoRow.holds Try.pinned (OpenSpec.upto viewManySpec)

end Rows
end Go.Proofs.Ytdchpilghgnnoaa
