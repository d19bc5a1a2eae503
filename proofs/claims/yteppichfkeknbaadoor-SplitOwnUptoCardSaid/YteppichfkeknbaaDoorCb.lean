/- WRITTEN BY a program of this session (vc.py): for each Go function the condition that is enough for its contract, and the theorem that it is. -/
import Derived.Test.YteppichfkeknbaaDoorProg
import Derived.Test.YteppichfkeknbaaDoorBq
import Derived.Test.YteppichfkeknbaaDoorBn
import Derived.Test.YteppichfkeknbaaDoorBe
namespace Go.Proofs.YteppichfkeknbaaDoor
open Go.Eng
namespace N6

set_option maxRecDepth 100000 in
def weirref7_copied_VC (bA : Option Addr) (bn : Nat) (bc : Nat) (w : World) (R : Ending → World → Prop) : Prop :=
  AppVC Tryd.prog #[26, 26] 26 (.slice none 0 0) (.slice bA bn bc) w fun lA ln lc w1 =>
  R (.returned (.slice lA ln lc)) w1
def weirref7_copied_H : Hints := []
set_option maxRecDepth 100000 in
theorem weirref7_copied_of (bA : Option Addr) (bn : Nat) (bc : Nat) (w : World) (R : Ending → World → Prop) (hvc_ : weirref7_copied_VC bA bn bc w R) :
    Calls Tryd.prog 53 #[.slice bA bn bc] w R :=
  calls_of_wpc callOk mixedOk (H := weirref7_copied_H) (args := [.slice bA bn bc]) (fn := Tryd.f53) (c := bodyOf Tryd.f53) Tryd.func53 rfl (Nat.le_of_ble_eq_true rfl)
    (Eq.mp (by kernel_rfl : weirref7_copied_VC bA bn bc w R = wpc Tryd.prog callF Tryd.f53.ntmps weirref7_copied_H 1 (bodyOf Tryd.f53) (argEnv 0 [.slice bA bn bc]) [] w (finish Tryd.prog callF Tryd.f53.results.toList R)) hvc_)

set_option maxRecDepth 100000 in
def weirref7_CloneOpts_L58 (R : Ending → World → Prop) (lA : Option Addr) (ln : Nat) (outA : Option Addr) (outn : Nat) (outc : Nat) (i : Int) (w1 : World) (K58 : ((Option Addr × Nat × Nat) × Int → World → Prop)) : Prop :=
  Br (decide (i < (ln : Int)))
    (DrawVC w1 fun S1 w2 =>
  IdxVC lA ln 2 i fun a =>
  ∃ x : Int, (∀ w' : World, S1 w' → w'.cell? a = some (.int .i64 x)) ∧
  IdxVC lA ln 2 i fun a1 =>
  ∃ (xA : Option Addr) (xn xc : Nat), (∀ w' : World, S1 w' → w'.cell? (a1.add 1) = some (.slice xA xn xc)) ∧
  Calls Tryd.prog 53 #[.slice xA xn xc] w2 (onRet (fun r_ w3 => ∃ (xA1 : Option Addr) (xn1 xc1 : Nat), r_ = .slice xA1 xn1 xc1 ∧
  S1 w3 ∧
  NewVC w3 (.cells #[.int .i64 x, .slice xA1 xn1 xc1] 94) fun g1 w4 =>
  S1 w4 ∧
  AppVC Tryd.prog #[25, 25] 25 (.slice outA outn outc) (.slice (some ⟨g1, 0, none⟩) 1 1) w4 fun lA1 ln1 lc1 w5 =>
  S1 w5 ∧
  K58 ((lA1, ln1, lc1), IntKind.i64.wrap (i + 1)) w5)
    (fun _ _ => False)))
    (R (.returned (.slice outA outn outc)) w1)
set_option maxRecDepth 100000 in
def weirref7_CloneOpts_VC (lA : Option Addr) (ln : Nat) (_lc : Nat) (w : World) (R : Ending → World → Prop) : Prop :=
  LoopVC (S := (Option Addr × Nat × Nat) × Int) (fun s_ w1 K58 => weirref7_CloneOpts_L58 R lA ln s_.1.1 s_.1.2.1 s_.1.2.2 s_.2 w1 K58) ((none, 0, 0), 0) w
def weirref7_CloneOpts_H : Hints := [(58, [(3, .slice), (4, .int .i64)])]
set_option maxRecDepth 100000 in
theorem weirref7_CloneOpts_of (lA : Option Addr) (ln : Nat) (lc : Nat) (w : World) (R : Ending → World → Prop) (hvc_ : weirref7_CloneOpts_VC lA ln lc w R) :
    Calls Tryd.prog 18 #[.slice lA ln lc] w R :=
  calls_of_wpc callOk mixedOk (H := weirref7_CloneOpts_H) (args := [.slice lA ln lc]) (fn := Tryd.f18) (c := bodyOf Tryd.f18) Tryd.func18 rfl (Nat.le_of_ble_eq_true rfl)
    (Eq.mp (by kernel_rfl : weirref7_CloneOpts_VC lA ln lc w R = wpc Tryd.prog callF Tryd.f18.ntmps weirref7_CloneOpts_H 1 (bodyOf Tryd.f18) (argEnv 0 [.slice lA ln lc]) [] w (finish Tryd.prog callF Tryd.f18.results.toList R)) hvc_)

set_option maxRecDepth 100000 in
def weirref7_CloneExts_L58 (R : Ending → World → Prop) (lA : Option Addr) (ln : Nat) (outA : Option Addr) (outn : Nat) (outc : Nat) (i : Int) (w1 : World) (K58 : ((Option Addr × Nat × Nat) × Int → World → Prop)) : Prop :=
  Br (decide (i < (ln : Int)))
    (DrawVC w1 fun S1 w2 =>
  IdxVC lA ln 3 i fun a =>
  ∃ x : Int, (∀ w' : World, S1 w' → w'.cell? a = some (.int .i64 x)) ∧
  IdxVC lA ln 3 i fun a1 =>
  ∃ (xA : Option Addr) (xn xc : Nat), (∀ w' : World, S1 w' → w'.cell? (a1.add 1) = some (.slice xA xn xc)) ∧
  IdxVC lA ln 3 i fun a2 =>
  ∃ (xA1 : Option Addr) (xn1 xc1 : Nat), (∀ w' : World, S1 w' → w'.cell? (a2.add 2) = some (.slice xA1 xn1 xc1)) ∧
  Calls Tryd.prog 18 #[.slice xA xn xc] w2 (onRet (fun r_ w3 => ∃ (xA2 : Option Addr) (xn2 xc2 : Nat), r_ = .slice xA2 xn2 xc2 ∧
  S1 w3 ∧
  Calls Tryd.prog 53 #[.slice xA1 xn1 xc1] w3 (onRet (fun r_1 w4 => ∃ (xA3 : Option Addr) (xn3 xc3 : Nat), r_1 = .slice xA3 xn3 xc3 ∧
  S1 w4 ∧
  NewVC w4 (.cells #[.int .i64 x, .slice xA2 xn2 xc2, .slice xA3 xn3 xc3] 80) fun g1 w5 =>
  S1 w5 ∧
  AppVC Tryd.prog #[40, 40] 40 (.slice outA outn outc) (.slice (some ⟨g1, 0, none⟩) 1 1) w5 fun lA1 ln1 lc1 w6 =>
  S1 w6 ∧
  K58 ((lA1, ln1, lc1), IntKind.i64.wrap (i + 1)) w6)
    (fun _ _ => False)))
    (fun _ _ => False)))
    (R (.returned (.slice outA outn outc)) w1)
set_option maxRecDepth 100000 in
def weirref7_CloneExts_VC (lA : Option Addr) (ln : Nat) (_lc : Nat) (w : World) (R : Ending → World → Prop) : Prop :=
  LoopVC (S := (Option Addr × Nat × Nat) × Int) (fun s_ w1 K58 => weirref7_CloneExts_L58 R lA ln s_.1.1 s_.1.2.1 s_.1.2.2 s_.2 w1 K58) ((none, 0, 0), 0) w
def weirref7_CloneExts_H : Hints := [(58, [(3, .slice), (4, .int .i64)])]
set_option maxRecDepth 100000 in
theorem weirref7_CloneExts_of (lA : Option Addr) (ln : Nat) (lc : Nat) (w : World) (R : Ending → World → Prop) (hvc_ : weirref7_CloneExts_VC lA ln lc w R) :
    Calls Tryd.prog 54 #[.slice lA ln lc] w R :=
  calls_of_wpc callOk mixedOk (H := weirref7_CloneExts_H) (args := [.slice lA ln lc]) (fn := Tryd.f54) (c := bodyOf Tryd.f54) Tryd.func54 rfl (Nat.le_of_ble_eq_true rfl)
    (Eq.mp (by kernel_rfl : weirref7_CloneExts_VC lA ln lc w R = wpc Tryd.prog callF Tryd.f54.ntmps weirref7_CloneExts_H 1 (bodyOf Tryd.f54) (argEnv 0 [.slice lA ln lc]) [] w (finish Tryd.prog callF Tryd.f54.results.toList R)) hvc_)

set_option maxRecDepth 100000 in
def weirref7_Clone_VC (h : Ip6V) (w : World) (R : Ending → World → Prop) : Prop :=
  NewVC w (.cells h.cells.toArray 44) fun g1 w1 =>
  NewVC w1 (.cells (Ip6V.z : Ip6V).cells.toArray 44) fun g2 w2 =>
  ∃ (xA : Option Addr) (xn xc : Nat), w2.cell? ⟨g1, 37, none⟩ = some (.slice xA xn xc) ∧
  Calls Tryd.prog 54 #[.slice xA xn xc] w2 (onRet (fun r_ w3 => ∃ (xA1 : Option Addr) (xn1 xc1 : Nat), r_ = .slice xA1 xn1 xc1 ∧
  SetVC w3 ⟨g1, 37, none⟩ (.slice xA1 xn1 xc1) fun w4 =>
  ∃ (xA2 : Option Addr) (xn2 xc2 : Nat), w4.cell? ⟨g1, 43, none⟩ = some (.slice xA2 xn2 xc2) ∧
  Calls Tryd.prog 53 #[.slice xA2 xn2 xc2] w4 (onRet (fun r_1 w5 => ∃ (xA3 : Option Addr) (xn3 xc3 : Nat), r_1 = .slice xA3 xn3 xc3 ∧
  SetVC w5 ⟨g1, 43, none⟩ (.slice xA3 xn3 xc3) fun w6 =>
  Ip6V.ex fun h1 => CellsAt w6 ⟨g1, 0, none⟩ 0 h1.cells ∧
  Stores ⟨g2, 0, none⟩ 0 h1.cells w6 fun w7 =>
  Ip6V.ex fun res => CellsAt w7 ⟨g2, 0, none⟩ 0 res.cells ∧
  R (.returned res.val) w7)
    (fun ch1 w5 => R (.panicked ch1) w5)))
    (fun ch w3 => R (.panicked ch) w3))
def weirref7_Clone_H : Hints := []
set_option maxRecDepth 100000 in
theorem weirref7_Clone_of (h : Ip6V) (w : World) (R : Ending → World → Prop) (hvc_ : weirref7_Clone_VC h w R) :
    Calls Tryd.prog 19 #[h.val] w R :=
  calls_of_wpc callOk mixedOk (H := weirref7_Clone_H) (args := [h.val]) (fn := Tryd.f19) (c := bodyOf Tryd.f19) Tryd.func19 rfl (Nat.le_of_ble_eq_true rfl)
    (Eq.mp (by kernel_rfl : weirref7_Clone_VC h w R = wpc Tryd.prog callF Tryd.f19.ntmps weirref7_Clone_H 1 (bodyOf Tryd.f19) (argEnv 0 [h.val]) [] w (finish Tryd.prog callF Tryd.f19.results.toList R)) hvc_)

end N6
end Go.Proofs.YteppichfkeknbaaDoor
