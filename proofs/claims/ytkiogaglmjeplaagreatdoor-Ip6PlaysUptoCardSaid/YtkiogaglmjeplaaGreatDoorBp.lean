/- WRITTEN BY a program of this session (vc.py): for each Go function the condition that is enough for its contract, and the theorem that it is. -/
import Derived.Test.YtkiogaglmjeplaaGreatDoorProg
import Derived.Test.YtkiogaglmjeplaaGreatDoorBq
import Derived.Test.YtkiogaglmjeplaaGreatDoorBn
import Derived.Test.YtkiogaglmjeplaaGreatDoorBe
import Derived.Test.YtkiogaglmjeplaaGreatDoorBm
import Derived.Test.YtkiogaglmjeplaaGreatDoorBj
namespace Go.Proofs.YtkiogaglmjeplaaGreatDoor
open Go.Eng
namespace N6

set_option maxRecDepth 100000 in
def weirref7_copied_VC (bA : Option Addr) (bn : Nat) (bc : Nat) (w : World) (R : Ending → World → Prop) : Prop :=
  AppVC Tryz.prog #[32, 32] 32 (.slice none 0 0) (.slice bA bn bc) w fun lA ln lc w1 =>
  R (.returned (.slice lA ln lc)) w1
def weirref7_copied_H : Hints := []
set_option maxRecDepth 100000 in
theorem weirref7_copied_of (bA : Option Addr) (bn : Nat) (bc : Nat) (w : World) (R : Ending → World → Prop) (hvc_ : weirref7_copied_VC bA bn bc w R) :
    Calls Tryz.prog 72 #[.slice bA bn bc] w R :=
  calls_of_wpc callOk mixedOk (H := weirref7_copied_H) (args := [.slice bA bn bc]) (fn := Tryz.f72) (c := bodyOf Tryz.f72) Tryz.func72 rfl (Nat.le_of_ble_eq_true rfl)
    (Eq.mp (by kernel_rfl : weirref7_copied_VC bA bn bc w R = wpc Tryz.prog callF Tryz.f72.ntmps weirref7_copied_H 1 (bodyOf Tryz.f72) (argEnv 0 [.slice bA bn bc]) [] w (finish Tryz.prog callF Tryz.f72.results.toList R)) hvc_)

set_option maxRecDepth 100000 in
def weirref7_Check_VC (h : Ip6V) (w : World) (R : Ending → World → Prop) : Prop :=
  NewVC w (.cells h.cells.toArray 34) fun g1 w1 =>
  Ip6V.ex fun h1 => CellsAt w1 ⟨g1, 0, none⟩ 0 h1.cells ∧
  Calls Tryz.prog 53 #[h1.val] w1 (onRet (fun r_ w2 => ∃ (x0A : Option Addr) (x0n x0c : Nat), ∃ x1 : Int, r_ = .tuple #[.slice x0A x0n x0c, .int .i64 x1] ∧
  R (.returned (.int .i64 x1)) w2)
    (fun ch w2 => R (.panicked ch) w2))
def weirref7_Check_H : Hints := []
set_option maxRecDepth 100000 in
theorem weirref7_Check_of (h : Ip6V) (w : World) (R : Ending → World → Prop) (hvc_ : weirref7_Check_VC h w R) :
    Calls Tryz.prog 55 #[h.val] w R :=
  calls_of_wpc callOk mixedOk (H := weirref7_Check_H) (args := [h.val]) (fn := Tryz.f55) (c := bodyOf Tryz.f55) Tryz.func55 rfl (Nat.le_of_ble_eq_true rfl)
    (Eq.mp (by kernel_rfl : weirref7_Check_VC h w R = wpc Tryz.prog callF Tryz.f55.ntmps weirref7_Check_H 1 (bodyOf Tryz.f55) (argEnv 0 [h.val]) [] w (finish Tryz.prog callF Tryz.f55.results.toList R)) hvc_)

set_option maxRecDepth 100000 in
def weirref7_Size_VC (h : Ip6V) (w : World) (R : Ending → World → Prop) : Prop :=
  NewVC w (.cells h.cells.toArray 34) fun g1 w1 =>
  Ip6V.ex fun h1 => CellsAt w1 ⟨g1, 0, none⟩ 0 h1.cells ∧
  Calls Tryz.prog 53 #[h1.val] w1 (onRet (fun r_ w2 => ∃ (x0A : Option Addr) (x0n x0c : Nat), ∃ x1 : Int, r_ = .tuple #[.slice x0A x0n x0c, .int .i64 x1] ∧
  R (.returned (.int .i64 (x0n : Int))) w2)
    (fun ch w2 => R (.panicked ch) w2))
def weirref7_Size_H : Hints := []
set_option maxRecDepth 100000 in
theorem weirref7_Size_of (h : Ip6V) (w : World) (R : Ending → World → Prop) (hvc_ : weirref7_Size_VC h w R) :
    Calls Tryz.prog 57 #[h.val] w R :=
  calls_of_wpc callOk mixedOk (H := weirref7_Size_H) (args := [h.val]) (fn := Tryz.f57) (c := bodyOf Tryz.f57) Tryz.func57 rfl (Nat.le_of_ble_eq_true rfl)
    (Eq.mp (by kernel_rfl : weirref7_Size_VC h w R = wpc Tryz.prog callF Tryz.f57.ntmps weirref7_Size_H 1 (bodyOf Tryz.f57) (argEnv 0 [h.val]) [] w (finish Tryz.prog callF Tryz.f57.results.toList R)) hvc_)

set_option maxRecDepth 100000 in
def weirref7_PutChain_VC (lA : Option Addr) (ln : Nat) (lc : Nat) (next : Int) (w : World) (R : Ending → World → Prop) : Prop :=
  Calls Tryz.prog 44 #[.int .i64 next, .int .i64 255] w (onRet (fun r_ w1 => ∃ x : Bool, r_ = .bool x ∧
  Br x
    (R (.returned (.tuple #[.slice none 0 0, .int .i64 1])) w1)
    (Calls Tryz.prog 82 #[.slice lA ln lc, .int .i64 next, .bool false] w1 (onRet (fun r_1 w2 => ∃ (x0A : Option Addr) (x0n x0c : Nat), ∃ x1 : Int, r_1 = .tuple #[.slice x0A x0n x0c, .int .i64 x1] ∧
  Br (decide (x1 ≠ 0))
    (R (.returned (.tuple #[.slice none 0 0, .int .i64 x1])) w2)
    (Calls Tryz.prog 83 #[.int .i64 next] w2 (onRet (fun r_2 w3 => ∃ x2 : Bool, r_2 = .bool x2 ∧
  Br (!x2)
    (R (.returned (.tuple #[.slice none 0 0, .int .i64 72])) w3)
    (R (.returned (.tuple #[.slice x0A x0n x0c, .int .i64 0])) w3))
    (fun ch2 w3 => R (.panicked ch2) w3))))
    (fun ch1 w2 => R (.panicked ch1) w2))))
    (fun ch w1 => R (.panicked ch) w1))
def weirref7_PutChain_H : Hints := []
set_option maxRecDepth 100000 in
theorem weirref7_PutChain_of (lA : Option Addr) (ln : Nat) (lc : Nat) (next : Int) (w : World) (R : Ending → World → Prop) (hvc_ : weirref7_PutChain_VC lA ln lc next w R) :
    Calls Tryz.prog 59 #[.slice lA ln lc, .int .i64 next] w R :=
  calls_of_wpc callOk mixedOk (H := weirref7_PutChain_H) (args := [.slice lA ln lc, .int .i64 next]) (fn := Tryz.f59) (c := bodyOf Tryz.f59) Tryz.func59 rfl (Nat.le_of_ble_eq_true rfl)
    (Eq.mp (by kernel_rfl : weirref7_PutChain_VC lA ln lc next w R = wpc Tryz.prog callF Tryz.f59.ntmps weirref7_PutChain_H 1 (bodyOf Tryz.f59) (argEnv 0 [.slice lA ln lc, .int .i64 next]) [] w (finish Tryz.prog callF Tryz.f59.results.toList R)) hvc_)
end N6
end Go.Proofs.YtkiogaglmjeplaaGreatDoor
/- weirref7's copies. -/
namespace Go.Proofs.YtkiogaglmjeplaaGreatDoor
namespace N6
open Go.Eng Go.RowKit
section
variable {w : World} {Γ : List Fct}
theorem copied_spec {s : Sl} {l : List Int} (h : BytesAt w s l) : Calls Tryz.prog 72 #[s.val] w fun e w' => ∃ s' : Sl, e = .returned s'.val ∧ BFine s' l ∧ Sep [Fct.rest w None, rowB w.heap.size s' l] w' := by
  refine weirref7_copied_of s.A s.n s.k w _ ?_
  unfold weirref7_copied_VC
  have hs := h.small
  refine appB (m := s.n) (xs := []) (ys := l) ((Sep.start0 w).nil _ _ _) 1 rfl h.cells h.len (by omega) (Nat.le_refl _) fun A2 c2 w2 H hc2 => ?_
  rw [Nat.zero_add] at H ⊢
  exact ⟨⟨A2, s.n, c2⟩, rfl, ⟨hs, h.bts⟩, H⟩
theorem refCheck6_spec {h : Ip6V} {es : List ExtR} {data : List Int} (hA : Ip6At w h es data) : Calls Tryz.prog 55 #[h.val] w fun e w' => Ext w w' ∧ e = .returned (.int .i64 (ser6S (h.d es data)).2) := by
  refine weirref7_Check_of h w _ ?_
  unfold weirref7_Check_VC
  refine NewVC.sep (Sep.start0 w) fun g1 w1 H => Ip6V.of h ⟨H.at 1 rfl, ?_⟩
  refine (refSerialise_spec (hA.ext (H.restOf 0 rfl))).mono ?_
  rintro _ w2 ⟨A, c, rfl, H2⟩
  exact ⟨_, _, _, _, rfl, (H.restOf 0 rfl).trans (H2.restOf 0 rfl), rfl⟩
theorem refSize6_spec {h : Ip6V} {es : List ExtR} {data : List Int} (hA : Ip6At w h es data) : Calls Tryz.prog 57 #[h.val] w fun e w' => Ext w w' ∧ e = .returned (.int .i64 ((ser6S (h.d es data)).1.length : Nat)) := by
  refine weirref7_Size_of h w _ ?_
  unfold weirref7_Size_VC
  refine NewVC.sep (Sep.start0 w) fun g1 w1 H => Ip6V.of h ⟨H.at 1 rfl, ?_⟩
  refine (refSerialise_spec (hA.ext (H.restOf 0 rfl))).mono ?_
  rintro _ w2 ⟨A, c, rfl, H2⟩
  exact ⟨_, _, _, _, rfl, (H.restOf 0 rfl).trans (H2.restOf 0 rfl), rfl⟩
theorem refPutChain_spec {s : Sl} {rs : List ExtR} {next : Int} (hX : ExtsAt w s rs) : Calls Tryz.prog 59 #[s.val, .int .i64 next] w (Made w (putChainS (rs.map ExtR.d) next)) := by
  refine weirref7_PutChain_of s.A s.n s.k next w _ ?_
  unfold weirref7_PutChain_VC
  have r1 : next < 0 ∨ 255 < next → putChainS (rs.map ExtR.d) next = ([], 1) := fun h => by unfold putChainS; rw [if_pos h]
  refine refOut_spec.mono ?_
  rintro _ _ ⟨rfl, rfl⟩
  refine ⟨_, rfl, Br.dec (fun h1 => Made.err (Mod.refl _ _) (r1 h1)) fun h1 => ?_⟩
  refine (refHeaders_spec (next := next) (top := false) hX).mono ?_
  rintro _ w2 ⟨A, c, rfl, H⟩
  have hs : putChainS (rs.map ExtR.d) next = if (headersS (rs.map ExtR.d) next false).2 ≠ 0 then ([], (headersS (rs.map ExtR.d) next false).2) else if upperS next = true then ((headersS (rs.map ExtR.d) next false).1, 0) else ([], 72) := by
    unfold putChainS; rw [if_neg h1]
  refine ⟨_, _, _, _, rfl, Br.dec (fun h3 => Made.err (H.restOf 0 rfl) (by rw [hs, if_pos h3])) fun h3 => ?_⟩
  rw [if_neg h3] at hs
  refine upper_spec.mono ?_
  rintro _ _ ⟨rfl, rfl⟩
  refine ⟨_, rfl, ?_⟩
  cases hu : upperS next with
  | true => exact Br.f rfl (Made.ok (by rw [hs, if_pos hu]) H)
  | false => exact Br.t rfl (Made.err (H.restOf 0 rfl) (by rw [hs, if_neg (by rw [hu]; decide)]))
end
end N6
end Go.Proofs.YtkiogaglmjeplaaGreatDoor
