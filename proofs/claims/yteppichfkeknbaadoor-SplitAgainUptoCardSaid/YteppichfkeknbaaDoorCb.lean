/- WRITTEN BY a program of this session (vc.py): for each Go function the condition that is enough for its contract, and the theorem that it is. -/
import Derived.Test.YteppichfkeknbaaDoorProg
import Derived.Test.YteppichfkeknbaaDoorBq
import Derived.Test.YteppichfkeknbaaDoorBn
import Derived.Test.YteppichfkeknbaaDoorBe
namespace Go.Proofs.YteppichfkeknbaaDoor
open Go.Eng
namespace N6

set_option maxRecDepth 100000 in
def weirref7_copied_VC (bA : Option Addr) (bn : Nat) (bc : Nat) (w : World) (R : Ending → World → Prop) : Prop :=
  AppVC Tryd.prog #[26, 26] 26 (.slice none 0 0) (.slice bA bn bc) w fun lA ln lc w1 =>
  R (.returned (.slice lA ln lc)) w1
def weirref7_copied_H : Hints := []
set_option maxRecDepth 100000 in
theorem weirref7_copied_of (bA : Option Addr) (bn : Nat) (bc : Nat) (w : World) (R : Ending → World → Prop) (hvc_ : weirref7_copied_VC bA bn bc w R) :
    Calls Tryd.prog 53 #[.slice bA bn bc] w R :=
  calls_of_wpc callOk mixedOk (H := weirref7_copied_H) (args := [.slice bA bn bc]) (fn := Tryd.f53) (c := bodyOf Tryd.f53) Tryd.func53 rfl (Nat.le_of_ble_eq_true rfl)
    (Eq.mp (by kernel_rfl : weirref7_copied_VC bA bn bc w R = wpc Tryd.prog callF Tryd.f53.ntmps weirref7_copied_H 1 (bodyOf Tryd.f53) (argEnv 0 [.slice bA bn bc]) [] w (finish Tryd.prog callF Tryd.f53.results.toList R)) hvc_)

set_option maxRecDepth 100000 in
def weirref7_CloneOpts_L58 (R : Ending → World → Prop) (lA : Option Addr) (ln : Nat) (outA : Option Addr) (outn : Nat) (outc : Nat) (i : Int) (w1 : World) (K58 : ((Option Addr × Nat × Nat) × Int → World → Prop)) : Prop :=
  Br (decide (i < (ln : Int)))
    (DrawVC w1 fun S1 w2 =>
  IdxVC lA ln 2 i fun a =>
  ∃ x : Int, (∀ w' : World, S1 w' → w'.cell? a = some (.int .i64 x)) ∧
  IdxVC lA ln 2 i fun a1 =>
  ∃ (xA : Option Addr) (xn xc : Nat), (∀ w' : World, S1 w' → w'.cell? (a1.add 1) = some (.slice xA xn xc)) ∧
  Calls Tryd.prog 53 #[.slice xA xn xc] w2 (onRet (fun r_ w3 => ∃ (xA1 : Option Addr) (xn1 xc1 : Nat), r_ = .slice xA1 xn1 xc1 ∧
  S1 w3 ∧
  NewVC w3 (.cells #[.int .i64 x, .slice xA1 xn1 xc1] 94) fun g1 w4 =>
  S1 w4 ∧
  AppVC Tryd.prog #[25, 25] 25 (.slice outA outn outc) (.slice (some ⟨g1, 0, none⟩) 1 1) w4 fun lA1 ln1 lc1 w5 =>
  S1 w5 ∧
  K58 ((lA1, ln1, lc1), IntKind.i64.wrap (i + 1)) w5)
    (fun _ _ => False)))
    (R (.returned (.slice outA outn outc)) w1)
set_option maxRecDepth 100000 in
def weirref7_CloneOpts_VC (lA : Option Addr) (ln : Nat) (_lc : Nat) (w : World) (R : Ending → World → Prop) : Prop :=
  LoopVC (S := (Option Addr × Nat × Nat) × Int) (fun s_ w1 K58 => weirref7_CloneOpts_L58 R lA ln s_.1.1 s_.1.2.1 s_.1.2.2 s_.2 w1 K58) ((none, 0, 0), 0) w
def weirref7_CloneOpts_H : Hints := [(58, [(3, .slice), (4, .int .i64)])]
set_option maxRecDepth 100000 in
theorem weirref7_CloneOpts_of (lA : Option Addr) (ln : Nat) (lc : Nat) (w : World) (R : Ending → World → Prop) (hvc_ : weirref7_CloneOpts_VC lA ln lc w R) :
    Calls Tryd.prog 18 #[.slice lA ln lc] w R :=
  calls_of_wpc callOk mixedOk (H := weirref7_CloneOpts_H) (args := [.slice lA ln lc]) (fn := Tryd.f18) (c := bodyOf Tryd.f18) Tryd.func18 rfl (Nat.le_of_ble_eq_true rfl)
    (Eq.mp (by kernel_rfl : weirref7_CloneOpts_VC lA ln lc w R = wpc Tryd.prog callF Tryd.f18.ntmps weirref7_CloneOpts_H 1 (bodyOf Tryd.f18) (argEnv 0 [.slice lA ln lc]) [] w (finish Tryd.prog callF Tryd.f18.results.toList R)) hvc_)

set_option maxRecDepth 100000 in
def weirref7_CloneExts_L58 (R : Ending → World → Prop) (lA : Option Addr) (ln : Nat) (outA : Option Addr) (outn : Nat) (outc : Nat) (i : Int) (w1 : World) (K58 : ((Option Addr × Nat × Nat) × Int → World → Prop)) : Prop :=
  Br (decide (i < (ln : Int)))
    (DrawVC w1 fun S1 w2 =>
  IdxVC lA ln 3 i fun a =>
  ∃ x : Int, (∀ w' : World, S1 w' → w'.cell? a = some (.int .i64 x)) ∧
  IdxVC lA ln 3 i fun a1 =>
  ∃ (xA : Option Addr) (xn xc : Nat), (∀ w' : World, S1 w' → w'.cell? (a1.add 1) = some (.slice xA xn xc)) ∧
  IdxVC lA ln 3 i fun a2 =>
  ∃ (xA1 : Option Addr) (xn1 xc1 : Nat), (∀ w' : World, S1 w' → w'.cell? (a2.add 2) = some (.slice xA1 xn1 xc1)) ∧
  Calls Tryd.prog 18 #[.slice xA xn xc] w2 (onRet (fun r_ w3 => ∃ (xA2 : Option Addr) (xn2 xc2 : Nat), r_ = .slice xA2 xn2 xc2 ∧
  S1 w3 ∧
  Calls Tryd.prog 53 #[.slice xA1 xn1 xc1] w3 (onRet (fun r_1 w4 => ∃ (xA3 : Option Addr) (xn3 xc3 : Nat), r_1 = .slice xA3 xn3 xc3 ∧
  S1 w4 ∧
  NewVC w4 (.cells #[.int .i64 x, .slice xA2 xn2 xc2, .slice xA3 xn3 xc3] 80) fun g1 w5 =>
  S1 w5 ∧
  AppVC Tryd.prog #[40, 40] 40 (.slice outA outn outc) (.slice (some ⟨g1, 0, none⟩) 1 1) w5 fun lA1 ln1 lc1 w6 =>
  S1 w6 ∧
  K58 ((lA1, ln1, lc1), IntKind.i64.wrap (i + 1)) w6)
    (fun _ _ => False)))
    (fun _ _ => False)))
    (R (.returned (.slice outA outn outc)) w1)
set_option maxRecDepth 100000 in
def weirref7_CloneExts_VC (lA : Option Addr) (ln : Nat) (_lc : Nat) (w : World) (R : Ending → World → Prop) : Prop :=
  LoopVC (S := (Option Addr × Nat × Nat) × Int) (fun s_ w1 K58 => weirref7_CloneExts_L58 R lA ln s_.1.1 s_.1.2.1 s_.1.2.2 s_.2 w1 K58) ((none, 0, 0), 0) w
def weirref7_CloneExts_H : Hints := [(58, [(3, .slice), (4, .int .i64)])]
set_option maxRecDepth 100000 in
theorem weirref7_CloneExts_of (lA : Option Addr) (ln : Nat) (lc : Nat) (w : World) (R : Ending → World → Prop) (hvc_ : weirref7_CloneExts_VC lA ln lc w R) :
    Calls Tryd.prog 54 #[.slice lA ln lc] w R :=
  calls_of_wpc callOk mixedOk (H := weirref7_CloneExts_H) (args := [.slice lA ln lc]) (fn := Tryd.f54) (c := bodyOf Tryd.f54) Tryd.func54 rfl (Nat.le_of_ble_eq_true rfl)
    (Eq.mp (by kernel_rfl : weirref7_CloneExts_VC lA ln lc w R = wpc Tryd.prog callF Tryd.f54.ntmps weirref7_CloneExts_H 1 (bodyOf Tryd.f54) (argEnv 0 [.slice lA ln lc]) [] w (finish Tryd.prog callF Tryd.f54.results.toList R)) hvc_)

set_option maxRecDepth 100000 in
def weirref7_Clone_VC (h : Ip6V) (w : World) (R : Ending → World → Prop) : Prop :=
  NewVC w (.cells h.cells.toArray 44) fun g1 w1 =>
  NewVC w1 (.cells (Ip6V.z : Ip6V).cells.toArray 44) fun g2 w2 =>
  ∃ (xA : Option Addr) (xn xc : Nat), w2.cell? ⟨g1, 37, none⟩ = some (.slice xA xn xc) ∧
  Calls Tryd.prog 54 #[.slice xA xn xc] w2 (onRet (fun r_ w3 => ∃ (xA1 : Option Addr) (xn1 xc1 : Nat), r_ = .slice xA1 xn1 xc1 ∧
  SetVC w3 ⟨g1, 37, none⟩ (.slice xA1 xn1 xc1) fun w4 =>
  ∃ (xA2 : Option Addr) (xn2 xc2 : Nat), w4.cell? ⟨g1, 43, none⟩ = some (.slice xA2 xn2 xc2) ∧
  Calls Tryd.prog 53 #[.slice xA2 xn2 xc2] w4 (onRet (fun r_1 w5 => ∃ (xA3 : Option Addr) (xn3 xc3 : Nat), r_1 = .slice xA3 xn3 xc3 ∧
  SetVC w5 ⟨g1, 43, none⟩ (.slice xA3 xn3 xc3) fun w6 =>
  Ip6V.ex fun h1 => CellsAt w6 ⟨g1, 0, none⟩ 0 h1.cells ∧
  Stores ⟨g2, 0, none⟩ 0 h1.cells w6 fun w7 =>
  Ip6V.ex fun res => CellsAt w7 ⟨g2, 0, none⟩ 0 res.cells ∧
  R (.returned res.val) w7)
    (fun ch1 w5 => R (.panicked ch1) w5)))
    (fun ch w3 => R (.panicked ch) w3))
def weirref7_Clone_H : Hints := []
set_option maxRecDepth 100000 in
theorem weirref7_Clone_of (h : Ip6V) (w : World) (R : Ending → World → Prop) (hvc_ : weirref7_Clone_VC h w R) :
    Calls Tryd.prog 19 #[h.val] w R :=
  calls_of_wpc callOk mixedOk (H := weirref7_Clone_H) (args := [h.val]) (fn := Tryd.f19) (c := bodyOf Tryd.f19) Tryd.func19 rfl (Nat.le_of_ble_eq_true rfl)
    (Eq.mp (by kernel_rfl : weirref7_Clone_VC h w R = wpc Tryd.prog callF Tryd.f19.ntmps weirref7_Clone_H 1 (bodyOf Tryd.f19) (argEnv 0 [h.val]) [] w (finish Tryd.prog callF Tryd.f19.results.toList R)) hvc_)

set_option maxRecDepth 100000 in
def weirref7_Check_VC (h : Ip6V) (w : World) (R : Ending → World → Prop) : Prop :=
  NewVC w (.cells h.cells.toArray 44) fun g1 w1 =>
  Ip6V.ex fun h1 => CellsAt w1 ⟨g1, 0, none⟩ 0 h1.cells ∧
  Calls Tryd.prog 98 #[h1.val] w1 (onRet (fun r_ w2 => ∃ (x0A : Option Addr) (x0n x0c : Nat), ∃ x1 : Int, r_ = .tuple #[.slice x0A x0n x0c, .int .i64 x1] ∧
  R (.returned (.int .i64 x1)) w2)
    (fun ch w2 => R (.panicked ch) w2))
def weirref7_Check_H : Hints := []
set_option maxRecDepth 100000 in
theorem weirref7_Check_of (h : Ip6V) (w : World) (R : Ending → World → Prop) (hvc_ : weirref7_Check_VC h w R) :
    Calls Tryd.prog 72 #[h.val] w R :=
  calls_of_wpc callOk mixedOk (H := weirref7_Check_H) (args := [h.val]) (fn := Tryd.f72) (c := bodyOf Tryd.f72) Tryd.func72 rfl (Nat.le_of_ble_eq_true rfl)
    (Eq.mp (by kernel_rfl : weirref7_Check_VC h w R = wpc Tryd.prog callF Tryd.f72.ntmps weirref7_Check_H 1 (bodyOf Tryd.f72) (argEnv 0 [h.val]) [] w (finish Tryd.prog callF Tryd.f72.results.toList R)) hvc_)

set_option maxRecDepth 100000 in
def weirref7_Size_VC (h : Ip6V) (w : World) (R : Ending → World → Prop) : Prop :=
  NewVC w (.cells h.cells.toArray 44) fun g1 w1 =>
  Ip6V.ex fun h1 => CellsAt w1 ⟨g1, 0, none⟩ 0 h1.cells ∧
  Calls Tryd.prog 98 #[h1.val] w1 (onRet (fun r_ w2 => ∃ (x0A : Option Addr) (x0n x0c : Nat), ∃ x1 : Int, r_ = .tuple #[.slice x0A x0n x0c, .int .i64 x1] ∧
  R (.returned (.int .i64 (x0n : Int))) w2)
    (fun ch w2 => R (.panicked ch) w2))
def weirref7_Size_H : Hints := []
set_option maxRecDepth 100000 in
theorem weirref7_Size_of (h : Ip6V) (w : World) (R : Ending → World → Prop) (hvc_ : weirref7_Size_VC h w R) :
    Calls Tryd.prog 73 #[h.val] w R :=
  calls_of_wpc callOk mixedOk (H := weirref7_Size_H) (args := [h.val]) (fn := Tryd.f73) (c := bodyOf Tryd.f73) Tryd.func73 rfl (Nat.le_of_ble_eq_true rfl)
    (Eq.mp (by kernel_rfl : weirref7_Size_VC h w R = wpc Tryd.prog callF Tryd.f73.ntmps weirref7_Size_H 1 (bodyOf Tryd.f73) (argEnv 0 [h.val]) [] w (finish Tryd.prog callF Tryd.f73.results.toList R)) hvc_)

set_option maxRecDepth 100000 in
def weirref7_PutChain_VC (lA : Option Addr) (ln : Nat) (lc : Nat) (next : Int) (w : World) (R : Ending → World → Prop) : Prop :=
  Calls Tryd.prog 99 #[.int .i64 next, .int .i64 255] w (onRet (fun r_ w1 => ∃ x : Bool, r_ = .bool x ∧
  Br x
    (R (.returned (.tuple #[.slice none 0 0, .int .i64 1])) w1)
    (Calls Tryd.prog 100 #[.slice lA ln lc, .int .i64 next, .bool false] w1 (onRet (fun r_1 w2 => ∃ (x0A : Option Addr) (x0n x0c : Nat), ∃ x1 : Int, r_1 = .tuple #[.slice x0A x0n x0c, .int .i64 x1] ∧
  Br (decide (x1 ≠ 0))
    (R (.returned (.tuple #[.slice none 0 0, .int .i64 x1])) w2)
    (Calls Tryd.prog 101 #[.int .i64 next] w2 (onRet (fun r_2 w3 => ∃ x2 : Bool, r_2 = .bool x2 ∧
  Br (!x2)
    (R (.returned (.tuple #[.slice none 0 0, .int .i64 72])) w3)
    (R (.returned (.tuple #[.slice x0A x0n x0c, .int .i64 0])) w3))
    (fun ch2 w3 => R (.panicked ch2) w3))))
    (fun ch1 w2 => R (.panicked ch1) w2))))
    (fun ch w1 => R (.panicked ch) w1))
def weirref7_PutChain_H : Hints := []
set_option maxRecDepth 100000 in
theorem weirref7_PutChain_of (lA : Option Addr) (ln : Nat) (lc : Nat) (next : Int) (w : World) (R : Ending → World → Prop) (hvc_ : weirref7_PutChain_VC lA ln lc next w R) :
    Calls Tryd.prog 75 #[.slice lA ln lc, .int .i64 next] w R :=
  calls_of_wpc callOk mixedOk (H := weirref7_PutChain_H) (args := [.slice lA ln lc, .int .i64 next]) (fn := Tryd.f75) (c := bodyOf Tryd.f75) Tryd.func75 rfl (Nat.le_of_ble_eq_true rfl)
    (Eq.mp (by kernel_rfl : weirref7_PutChain_VC lA ln lc next w R = wpc Tryd.prog callF Tryd.f75.ntmps weirref7_PutChain_H 1 (bodyOf Tryd.f75) (argEnv 0 [.slice lA ln lc, .int .i64 next]) [] w (finish Tryd.prog callF Tryd.f75.results.toList R)) hvc_)

set_option maxRecDepth 100000 in
def weirref13_part_VC (bA : Option Addr) (bn : Nat) (bc : Nat) (lo : Int) (hi : Int) (w : World) (R : Ending → World → Prop) : Prop :=
  SliceVC bA bn bc 1 (some lo) (some hi) none fun sA sn sc =>
  AppVC Tryd.prog #[26, 26] 26 (.slice none 0 0) (.slice sA sn sc) w fun lA ln lc w1 =>
  R (.returned (.slice lA ln lc)) w1
def weirref13_part_H : Hints := []
set_option maxRecDepth 100000 in
theorem weirref13_part_of (bA : Option Addr) (bn : Nat) (bc : Nat) (lo : Int) (hi : Int) (w : World) (R : Ending → World → Prop) (hvc_ : weirref13_part_VC bA bn bc lo hi w R) :
    Calls Tryd.prog 97 #[.slice bA bn bc, .int .i64 lo, .int .i64 hi] w R :=
  calls_of_wpc callOk mixedOk (H := weirref13_part_H) (args := [.slice bA bn bc, .int .i64 lo, .int .i64 hi]) (fn := Tryd.f97) (c := bodyOf Tryd.f97) Tryd.func97 rfl (Nat.le_of_ble_eq_true rfl)
    (Eq.mp (by kernel_rfl : weirref13_part_VC bA bn bc lo hi w R = wpc Tryd.prog callF Tryd.f97.ntmps weirref13_part_H 1 (bodyOf Tryd.f97) (argEnv 0 [.slice bA bn bc, .int .i64 lo, .int .i64 hi]) [] w (finish Tryd.prog callF Tryd.f97.results.toList R)) hvc_)

set_option maxRecDepth 100000 in
def weirref13_clone4_VC (h : Ip4V) (w : World) (R : Ending → World → Prop) : Prop :=
  NewVC w (.cells h.cells.toArray 28) fun g1 w1 =>
  NewVC w1 (.cells (Ip4V.z : Ip4V).cells.toArray 28) fun g2 w2 =>
  ∃ (xA : Option Addr) (xn xc : Nat), w2.cell? ⟨g1, 41, none⟩ = some (.slice xA xn xc) ∧
  Calls Tryd.prog 18 #[.slice xA xn xc] w2 (onRet (fun r_ w3 => ∃ (xA1 : Option Addr) (xn1 xc1 : Nat), r_ = .slice xA1 xn1 xc1 ∧
  SetVC w3 ⟨g1, 41, none⟩ (.slice xA1 xn1 xc1) fun w4 =>
  ∃ (xA2 : Option Addr) (xn2 xc2 : Nat), w4.cell? ⟨g1, 42, none⟩ = some (.slice xA2 xn2 xc2) ∧
  ∃ (xA3 : Option Addr) (xn3 xc3 : Nat), w4.cell? ⟨g1, 42, none⟩ = some (.slice xA3 xn3 xc3) ∧
  Calls Tryd.prog 97 #[.slice xA2 xn2 xc2, .int .i64 0, .int .i64 (xn3 : Int)] w4 (onRet (fun r_1 w5 => ∃ (xA4 : Option Addr) (xn4 xc4 : Nat), r_1 = .slice xA4 xn4 xc4 ∧
  SetVC w5 ⟨g1, 42, none⟩ (.slice xA4 xn4 xc4) fun w6 =>
  Ip4V.ex fun h1 => CellsAt w6 ⟨g1, 0, none⟩ 0 h1.cells ∧
  Stores ⟨g2, 0, none⟩ 0 h1.cells w6 fun w7 =>
  Ip4V.ex fun res => CellsAt w7 ⟨g2, 0, none⟩ 0 res.cells ∧
  R (.returned res.val) w7)
    (fun ch1 w5 => R (.panicked ch1) w5)))
    (fun ch w3 => R (.panicked ch) w3))
def weirref13_clone4_H : Hints := []
set_option maxRecDepth 100000 in
theorem weirref13_clone4_of (h : Ip4V) (w : World) (R : Ending → World → Prop) (hvc_ : weirref13_clone4_VC h w R) :
    Calls Tryd.prog 69 #[h.val] w R :=
  calls_of_wpc callOk mixedOk (H := weirref13_clone4_H) (args := [h.val]) (fn := Tryd.f69) (c := bodyOf Tryd.f69) Tryd.func69 rfl (Nat.le_of_ble_eq_true rfl)
    (Eq.mp (by kernel_rfl : weirref13_clone4_VC h w R = wpc Tryd.prog callF Tryd.f69.ntmps weirref13_clone4_H 1 (bodyOf Tryd.f69) (argEnv 0 [h.val]) [] w (finish Tryd.prog callF Tryd.f69.results.toList R)) hvc_)

set_option maxRecDepth 100000 in
def weirref13_length4_VC (h : Ip4V) (w : World) (R : Ending → World → Prop) : Prop :=
  NewVC w (.cells h.cells.toArray 28) fun g1 w1 =>
  Ip4V.ex fun h1 => CellsAt w1 ⟨g1, 0, none⟩ 0 h1.cells ∧
  Calls Tryd.prog 96 #[h1.val] w1 (onRet (fun r_ w2 => ∃ (x0A : Option Addr) (x0n x0c : Nat), ∃ x1 : Int, r_ = .tuple #[.slice x0A x0n x0c, .int .i64 x1] ∧
  R (.returned (.int .i64 (x0n : Int))) w2)
    (fun ch w2 => R (.panicked ch) w2))
def weirref13_length4_H : Hints := []
set_option maxRecDepth 100000 in
theorem weirref13_length4_of (h : Ip4V) (w : World) (R : Ending → World → Prop) (hvc_ : weirref13_length4_VC h w R) :
    Calls Tryd.prog 68 #[h.val] w R :=
  calls_of_wpc callOk mixedOk (H := weirref13_length4_H) (args := [h.val]) (fn := Tryd.f68) (c := bodyOf Tryd.f68) Tryd.func68 rfl (Nat.le_of_ble_eq_true rfl)
    (Eq.mp (by kernel_rfl : weirref13_length4_VC h w R = wpc Tryd.prog callF Tryd.f68.ntmps weirref13_length4_H 1 (bodyOf Tryd.f68) (argEnv 0 [h.val]) [] w (finish Tryd.prog callF Tryd.f68.results.toList R)) hvc_)

set_option maxRecDepth 100000 in
def weirref13_Fits4_VC (h : Ip4V) (mtu : Int) (w : World) (R : Ending → World → Prop) : Prop :=
  NewVC w (.cells h.cells.toArray 28) fun g1 w1 =>
  Ip4V.ex fun h1 => CellsAt w1 ⟨g1, 0, none⟩ 0 h1.cells ∧
  Calls Tryd.prog 68 #[h1.val] w1 (onRet (fun r_ w2 => ∃ x : Int, r_ = .int .i64 x ∧
  Br (decide ((0 : Int) < x))
    (R (.returned (.bool (decide (x ≤ mtu)))) w2)
    (R (.returned (.bool false)) w2))
    (fun ch w2 => R (.panicked ch) w2))
def weirref13_Fits4_H : Hints := []
set_option maxRecDepth 100000 in
theorem weirref13_Fits4_of (h : Ip4V) (mtu : Int) (w : World) (R : Ending → World → Prop) (hvc_ : weirref13_Fits4_VC h mtu w R) :
    Calls Tryd.prog 38 #[h.val, .int .i64 mtu] w R :=
  calls_of_wpc callOk mixedOk (H := weirref13_Fits4_H) (args := [h.val, .int .i64 mtu]) (fn := Tryd.f38) (c := bodyOf Tryd.f38) Tryd.func38 rfl (Nat.le_of_ble_eq_true rfl)
    (Eq.mp (by kernel_rfl : weirref13_Fits4_VC h mtu w R = wpc Tryd.prog callF Tryd.f38.ntmps weirref13_Fits4_H 1 (bodyOf Tryd.f38) (argEnv 0 [h.val, .int .i64 mtu]) [] w (finish Tryd.prog callF Tryd.f38.results.toList R)) hvc_)

set_option maxRecDepth 100000 in
def weirref13_Fits6_VC (h : Ip6V) (mtu : Int) (w : World) (R : Ending → World → Prop) : Prop :=
  NewVC w (.cells h.cells.toArray 44) fun g1 w1 =>
  Ip6V.ex fun h1 => CellsAt w1 ⟨g1, 0, none⟩ 0 h1.cells ∧
  Calls Tryd.prog 73 #[h1.val] w1 (onRet (fun r_ w2 => ∃ x : Int, r_ = .int .i64 x ∧
  Br (decide ((0 : Int) < x))
    (R (.returned (.bool (decide (x ≤ mtu)))) w2)
    (R (.returned (.bool false)) w2))
    (fun ch w2 => R (.panicked ch) w2))
def weirref13_Fits6_H : Hints := []
set_option maxRecDepth 100000 in
theorem weirref13_Fits6_of (h : Ip6V) (mtu : Int) (w : World) (R : Ending → World → Prop) (hvc_ : weirref13_Fits6_VC h mtu w R) :
    Calls Tryd.prog 39 #[h.val, .int .i64 mtu] w R :=
  calls_of_wpc callOk mixedOk (H := weirref13_Fits6_H) (args := [h.val, .int .i64 mtu]) (fn := Tryd.f39) (c := bodyOf Tryd.f39) Tryd.func39 rfl (Nat.le_of_ble_eq_true rfl)
    (Eq.mp (by kernel_rfl : weirref13_Fits6_VC h mtu w R = wpc Tryd.prog callF Tryd.f39.ntmps weirref13_Fits6_H 1 (bodyOf Tryd.f39) (argEnv 0 [h.val, .int .i64 mtu]) [] w (finish Tryd.prog callF Tryd.f39.results.toList R)) hvc_)

set_option maxRecDepth 100000 in
def weirref13_copying_L58 (R : Ending → World → Prop) (lA : Option Addr) (ln : Nat) (outA : Option Addr) (outn : Nat) (outc : Nat) (i : Int) (w1 : World) (K58 : ((Option Addr × Nat × Nat) × Int → World → Prop)) : Prop :=
  Br (decide (i < (ln : Int)))
    (IdxVC lA ln 2 i fun a =>
  ∃ x : Int, w1.cell? a = some (.int .i64 x) ∧
  Br (decide ((128 : Int) ≤ x))
    (IdxVC lA ln 2 i fun a1 =>
    OptV.ex fun h => CellsAt w1 a1 0 h.cells ∧
    NewVC w1 (.cells h.cells.toArray 94) fun g1 w2 =>
    AppVC Tryd.prog #[25, 25] 25 (.slice outA outn outc) (.slice (some ⟨g1, 0, none⟩) 1 1) w2 fun lA1 ln1 lc1 w3 =>
    K58 ((lA1, ln1, lc1), IntKind.i64.wrap (i + 1)) w3)
    (K58 ((outA, outn, outc), IntKind.i64.wrap (i + 1)) w1))
    (R (.returned (.slice outA outn outc)) w1)
set_option maxRecDepth 100000 in
def weirref13_copying_VC (lA : Option Addr) (ln : Nat) (_lc : Nat) (w : World) (R : Ending → World → Prop) : Prop :=
  LoopVC (S := (Option Addr × Nat × Nat) × Int) (fun s_ w1 K58 => weirref13_copying_L58 R lA ln s_.1.1 s_.1.2.1 s_.1.2.2 s_.2 w1 K58) ((none, 0, 0), 0) w
def weirref13_copying_H : Hints := [(58, [(3, .slice), (4, .int .i64)])]
set_option maxRecDepth 100000 in
theorem weirref13_copying_of (lA : Option Addr) (ln : Nat) (lc : Nat) (w : World) (R : Ending → World → Prop) (hvc_ : weirref13_copying_VC lA ln lc w R) :
    Calls Tryd.prog 70 #[.slice lA ln lc] w R :=
  calls_of_wpc callOk mixedOk (H := weirref13_copying_H) (args := [.slice lA ln lc]) (fn := Tryd.f70) (c := bodyOf Tryd.f70) Tryd.func70 rfl (Nat.le_of_ble_eq_true rfl)
    (Eq.mp (by kernel_rfl : weirref13_copying_VC lA ln lc w R = wpc Tryd.prog callF Tryd.f70.ntmps weirref13_copying_H 1 (bodyOf Tryd.f70) (argEnv 0 [.slice lA ln lc]) [] w (finish Tryd.prog callF Tryd.f70.results.toList R)) hvc_)

set_option maxRecDepth 100000 in
def weirref13_take_L60 (R : Ending → World → Prop) (head : Int) (mtu : Int) (n : Int) (w1 : World) (K60 : (Int → World → Prop)) : Prop :=
  Br (decide (IntKind.i64.wrap (IntKind.i64.wrap (head + n) + 8) ≤ mtu))
    (K60 (IntKind.i64.wrap (n + 8)) w1)
    (R (.returned (.int .i64 n)) w1)
set_option maxRecDepth 100000 in
def weirref13_take_VC (left : Int) (head : Int) (mtu : Int) (w : World) (R : Ending → World → Prop) : Prop :=
  Br (decide (IntKind.i64.wrap (head + left) ≤ mtu))
    (R (.returned (.int .i64 left)) w)
    (LoopVC (S := Int) (fun s_ w1 K60 => weirref13_take_L60 R head mtu s_ w1 K60) 0 w)
def weirref13_take_H : Hints := [(60, [(7, .int .i64)])]
set_option maxRecDepth 100000 in
theorem weirref13_take_of (left : Int) (head : Int) (mtu : Int) (w : World) (R : Ending → World → Prop) (hvc_ : weirref13_take_VC left head mtu w R) :
    Calls Tryd.prog 71 #[.int .i64 left, .int .i64 head, .int .i64 mtu] w R :=
  calls_of_wpc callOk mixedOk (H := weirref13_take_H) (args := [.int .i64 left, .int .i64 head, .int .i64 mtu]) (fn := Tryd.f71) (c := bodyOf Tryd.f71) Tryd.func71 rfl (Nat.le_of_ble_eq_true rfl)
    (Eq.mp (by kernel_rfl : weirref13_take_VC left head mtu w R = wpc Tryd.prog callF Tryd.f71.ntmps weirref13_take_H 1 (bodyOf Tryd.f71) (argEnv 0 [.int .i64 left, .int .i64 head, .int .i64 mtu]) [] w (finish Tryd.prog callF Tryd.f71.results.toList R)) hvc_)

set_option maxRecDepth 100000 in
def weirref13_kept_L122 (R : Ending → World → Prop) (lA : Option Addr) (ln : Nat) (n1 : Int) (i : Int) (w2 : World) (K122 : (Int × Int → World → Prop)) : Prop :=
  Br (decide (i < (ln : Int)))
    (IdxVC lA ln 3 i fun a1 =>
  ∃ x1 : Int, w2.cell? a1 = some (.int .i64 x1) ∧
  Br (decide (x1 = 43))
    (K122 (IntKind.i64.wrap (i + 1), IntKind.i64.wrap (i + 1)) w2)
    (K122 (n1, IntKind.i64.wrap (i + 1)) w2))
    (R (.returned (.int .i64 n1)) w2)
set_option maxRecDepth 100000 in
def weirref13_kept_J7 (R : Ending → World → Prop) (lA : Option Addr) (ln : Nat) (n : Int) (w1 : World) : Prop :=
  LoopVC (S := Int × Int) (fun s_ w2 K122 => weirref13_kept_L122 R lA ln s_.1 s_.2 w2 K122) (n, 0) w1
set_option maxRecDepth 100000 in
def weirref13_kept_VC (lA : Option Addr) (ln : Nat) (_lc : Nat) (w : World) (R : Ending → World → Prop) : Prop :=
  JoinVC (S := Int) (fun J7 =>
      Br (decide ((0 : Int) < (ln : Int)))
        (IdxVC lA ln 3 0 fun a =>
        ∃ x : Int, w.cell? a = some (.int .i64 x) ∧
        Br (decide (x = 0))
        (J7 1 w)
        (J7 0 w))
        (J7 0 w))
    (fun s_ w1 => weirref13_kept_J7 R lA ln s_ w1)
def weirref13_kept_H : Hints := [(7, [(3, .int .i64)]), (122, [(3, .int .i64), (4, .int .i64)])]
set_option maxRecDepth 100000 in
theorem weirref13_kept_of (lA : Option Addr) (ln : Nat) (lc : Nat) (w : World) (R : Ending → World → Prop) (hvc_ : weirref13_kept_VC lA ln lc w R) :
    Calls Tryd.prog 74 #[.slice lA ln lc] w R :=
  calls_of_wpc callOk mixedOk (H := weirref13_kept_H) (args := [.slice lA ln lc]) (fn := Tryd.f74) (c := bodyOf Tryd.f74) Tryd.func74 rfl (Nat.le_of_ble_eq_true rfl)
    (Eq.mp (by kernel_rfl : weirref13_kept_VC lA ln lc w R = wpc Tryd.prog callF Tryd.f74.ntmps weirref13_kept_H 1 (bodyOf Tryd.f74) (argEnv 0 [.slice lA ln lc]) [] w (finish Tryd.prog callF Tryd.f74.results.toList R)) hvc_)

set_option maxRecDepth 100000 in
def weirref13_Split4_J1046719 (R : Ending → World → Prop) (g1 : Nat) (outA : Option Addr) (outn : Nat) (outc : Nat) (at_ : Int) (K2044 : ((Option Addr × Nat × Nat) × Int → World → Prop)) (g3 : Nat) (x4 : Int)  (w18 : World) : Prop :=
  ∃ x6 : Int, w18.cell? ⟨g1, 4, none⟩ = some (.int .i64 x6) ∧
  SetVC w18 ⟨g3, 4, none⟩ (.int .i64 (IntKind.i64.wrap (x6 + at_))) fun w19 =>
  ∃ (xA5 : Option Addr) (xn5 xc5 : Nat), w19.cell? ⟨g1, 42, none⟩ = some (.slice xA5 xn5 xc5) ∧
  SliceVC xA5 xn5 xc5 1 (some at_) (some (IntKind.i64.wrap (at_ + x4))) none fun sA sn sc =>
  SetVC w19 ⟨g3, 42, none⟩ (.slice sA sn sc) fun w20 =>
  Ip4V.ex fun h7 => CellsAt w20 ⟨g3, 0, none⟩ 0 h7.cells ∧
  Calls Tryd.prog 69 #[h7.val] w20 (onRet (fun r_6 w21 => Ip4V.ex fun h8 => r_6 = h8.val ∧
  NewVC w21 (.cells h8.cells.toArray 28) fun g4 w22 =>
  AppVC Tryd.prog #[29, 29] 29 (.slice outA outn outc) (.slice (some ⟨g4, 0, none⟩) 1 1) w22 fun lA ln lc w23 =>
  K2044 ((lA, ln, lc), IntKind.i64.wrap (at_ + x4)) w23)
    (fun ch6 w21 => R (.panicked ch6) w21))
set_option maxRecDepth 100000 in
def weirref13_Split4_J32709 (R : Ending → World → Prop) (mtu : Int) (g1 : Nat) (outA : Option Addr) (outn : Nat) (outc : Nat) (at_ : Int) (K2044 : ((Option Addr × Nat × Nat) × Int → World → Prop)) (g3 : Nat)  (w11 : World) : Prop :=
  SetVC w11 ⟨g3, 42, none⟩ (.slice none 0 0) fun w12 =>
  SetVC w12 ⟨g3, 3, none⟩ (.bool false) fun w13 =>
  Ip4V.ex fun h6 => CellsAt w13 ⟨g3, 0, none⟩ 0 h6.cells ∧
  Calls Tryd.prog 68 #[h6.val] w13 (onRet (fun r_4 w14 => ∃ x3 : Int, r_4 = .int .i64 x3 ∧
  ∃ (xA3 : Option Addr) (xn3 xc3 : Nat), w14.cell? ⟨g1, 42, none⟩ = some (.slice xA3 xn3 xc3) ∧
  Calls Tryd.prog 71 #[.int .i64 (IntKind.i64.wrap ((xn3 : Int) - at_)), .int .i64 x3, .int .i64 mtu] w14 (onRet (fun r_5 w15 => ∃ x4 : Int, r_5 = .int .i64 x4 ∧
  JoinVC (S := Unit) (fun J1046719 =>
      ∃ (xA4 : Option Addr) (xn4 xc4 : Nat), w15.cell? ⟨g1, 42, none⟩ = some (.slice xA4 xn4 xc4) ∧
      Br (decide (IntKind.i64.wrap (at_ + x4) < (xn4 : Int)))
        (SetVC w15 ⟨g3, 3, none⟩ (.bool true) fun w16 =>
        J1046719 () w16)
        (∃ x5 : Bool, w15.cell? ⟨g1, 3, none⟩ = some (.bool x5) ∧
        SetVC w15 ⟨g3, 3, none⟩ (.bool x5) fun w17 =>
        J1046719 () w17))
    (fun _ w18 => weirref13_Split4_J1046719 R g1 outA outn outc at_ K2044 g3 x4 w18))
    (fun ch5 w15 => R (.panicked ch5) w15)))
    (fun ch4 w14 => R (.panicked ch4) w14))
set_option maxRecDepth 100000 in
def weirref13_Split4_L2044 (R : Ending → World → Prop) (mtu : Int) (g1 : Nat) (outA : Option Addr) (outn : Nat) (outc : Nat) (at_ : Int) (w6 : World) (K2044 : ((Option Addr × Nat × Nat) × Int → World → Prop)) : Prop :=
  ∃ (xA : Option Addr) (xn xc : Nat), w6.cell? ⟨g1, 42, none⟩ = some (.slice xA xn xc) ∧
  Br (decide (at_ < (xn : Int)))
    (Ip4V.ex fun h5 => CellsAt w6 ⟨g1, 0, none⟩ 0 h5.cells ∧
  NewVC w6 (.cells (Ip4V.z : Ip4V).cells.toArray 28) fun g3 w7 =>
  Stores ⟨g3, 0, none⟩ 0 h5.cells w7 fun w8 =>
  JoinVC (S := Unit) (fun J32709 =>
      Br (decide ((0 : Int) < at_))
        (∃ (xA1 : Option Addr) (xn1 xc1 : Nat), w8.cell? ⟨g1, 41, none⟩ = some (.slice xA1 xn1 xc1) ∧
        Calls Tryd.prog 70 #[.slice xA1 xn1 xc1] w8 (onRet (fun r_3 w9 => ∃ (xA2 : Option Addr) (xn2 xc2 : Nat), r_3 = .slice xA2 xn2 xc2 ∧
        SetVC w9 ⟨g3, 41, none⟩ (.slice xA2 xn2 xc2) fun w10 =>
        J32709 () w10)
          (fun ch3 w9 => R (.panicked ch3) w9)))
        (J32709 () w8))
    (fun _ w11 => weirref13_Split4_J32709 R mtu g1 outA outn outc at_ K2044 g3 w11))
    (R (.returned (.tuple #[.slice outA outn outc, .int .i64 0])) w6)
set_option maxRecDepth 100000 in
def weirref13_Split4_VC (h : Ip4V) (mtu : Int) (w : World) (R : Ending → World → Prop) : Prop :=
  NewVC w (.cells h.cells.toArray 28) fun g1 w1 =>
  Ip4V.ex fun h1 => CellsAt w1 ⟨g1, 0, none⟩ 0 h1.cells ∧
  Calls Tryd.prog 67 #[h1.val] w1 (onRet (fun r_ w2 => ∃ x : Int, r_ = .int .i64 x ∧
  Br (decide (x ≠ 0))
    (R (.returned (.tuple #[.slice none 0 0, .int .i64 x])) w2)
    (Br (decide (mtu < 68))
    (R (.returned (.tuple #[.slice none 0 0, .int .i64 132])) w2)
    (Br (decide ((65535 : Int) < mtu))
    (R (.returned (.tuple #[.slice none 0 0, .int .i64 132])) w2)
    (Ip4V.ex fun h2 => CellsAt w2 ⟨g1, 0, none⟩ 0 h2.cells ∧
  Calls Tryd.prog 68 #[h2.val] w2 (onRet (fun r_1 w3 => ∃ x1 : Int, r_1 = .int .i64 x1 ∧
  Br (decide (x1 ≤ mtu))
    (Ip4V.ex fun h3 => CellsAt w3 ⟨g1, 0, none⟩ 0 h3.cells ∧
    Calls Tryd.prog 69 #[h3.val] w3 (onRet (fun r_2 w4 => Ip4V.ex fun h4 => r_2 = h4.val ∧
    NewVC w4 (.cells h4.cells.toArray 28) fun g2 w5 =>
    R (.returned (.tuple #[.slice (some ⟨g2, 0, none⟩) 1 1, .int .i64 0])) w5)
      (fun ch2 w4 => R (.panicked ch2) w4)))
    (∃ x2 : Bool, w3.cell? ⟨g1, 2, none⟩ = some (.bool x2) ∧
  Br x2
    (R (.returned (.tuple #[.slice none 0 0, .int .i64 130])) w3)
    (LoopVC (S := (Option Addr × Nat × Nat) × Int) (fun s_ w6 K2044 => weirref13_Split4_L2044 R mtu g1 s_.1.1 s_.1.2.1 s_.1.2.2 s_.2 w6 K2044) ((none, 0, 0), 0) w3)))
    (fun ch1 w3 => R (.panicked ch1) w3))))))
    (fun ch w2 => R (.panicked ch) w2))
def weirref13_Split4_H : Hints := [(2044, [(7, .slice), (8, .int .i64)]), (32709, []), (1046719, [])]
set_option maxRecDepth 100000 in
theorem weirref13_Split4_of (h : Ip4V) (mtu : Int) (w : World) (R : Ending → World → Prop) (hvc_ : weirref13_Split4_VC h mtu w R) :
    Calls Tryd.prog 35 #[h.val, .int .i64 mtu] w R :=
  calls_of_wpc callOk mixedOk (H := weirref13_Split4_H) (args := [h.val, .int .i64 mtu]) (fn := Tryd.f35) (c := bodyOf Tryd.f35) Tryd.func35 rfl (Nat.le_of_ble_eq_true rfl)
    (Eq.mp (by kernel_rfl : weirref13_Split4_VC h mtu w R = wpc Tryd.prog callF Tryd.f35.ntmps weirref13_Split4_H 1 (bodyOf Tryd.f35) (argEnv 0 [h.val, .int .i64 mtu]) [] w (finish Tryd.prog callF Tryd.f35.results.toList R)) hvc_)

set_option maxRecDepth 100000 in
def weirref13_Split6_L4194300 (R : Ending → World → Prop) (mtu : Int) (lA : Option Addr) (ln : Nat) (lc : Nat) (g3 : Nat) (x6 : Int) (outA : Option Addr) (outn : Nat) (outc : Nat) (at_ : Int) (w18 : World) (K4194300 : ((Option Addr × Nat × Nat) × Int → World → Prop)) : Prop :=
  Br (decide (at_ < (ln : Int)))
    (Calls Tryd.prog 71 #[.int .i64 (IntKind.i64.wrap ((ln : Int) - at_)), .int .i64 x6, .int .i64 mtu] w18 (onRet (fun r_6 w19 => ∃ x7 : Int, r_6 = .int .i64 x7 ∧
  SetVC w19 ⟨g3, 41, none⟩ (.int .i64 at_) fun w20 =>
  SetVC w20 ⟨g3, 39, none⟩ (.bool (decide (IntKind.i64.wrap (at_ + x7) < (ln : Int)))) fun w21 =>
  SliceVC lA ln lc 1 (some at_) (some (IntKind.i64.wrap (at_ + x7))) none fun sA2 sn2 sc2 =>
  SetVC w21 ⟨g3, 43, none⟩ (.slice sA2 sn2 sc2) fun w22 =>
  Ip6V.ex fun h7 => CellsAt w22 ⟨g3, 0, none⟩ 0 h7.cells ∧
  Calls Tryd.prog 19 #[h7.val] w22 (onRet (fun r_7 w23 => Ip6V.ex fun h8 => r_7 = h8.val ∧
  NewVC w23 (.cells h8.cells.toArray 44) fun g4 w24 =>
  AppVC Tryd.prog #[46, 46] 46 (.slice outA outn outc) (.slice (some ⟨g4, 0, none⟩) 1 1) w24 fun lA1 ln1 lc1 w25 =>
  K4194300 ((lA1, ln1, lc1), IntKind.i64.wrap (at_ + x7)) w25)
    (fun ch7 w23 => R (.panicked ch7) w23)))
    (fun ch6 w19 => R (.panicked ch6) w19)))
    (R (.returned (.tuple #[.slice outA outn outc, .int .i64 0])) w18)
set_option maxRecDepth 100000 in
def weirref13_Split6_J16383 (R : Ending → World → Prop) (mtu : Int) (lA : Option Addr) (ln : Nat) (lc : Nat) (g3 : Nat)  (w15 : World) : Prop :=
  SetVC w15 ⟨g3, 43, none⟩ (.slice none 0 0) fun w16 =>
  Ip6V.ex fun h6 => CellsAt w16 ⟨g3, 0, none⟩ 0 h6.cells ∧
  Calls Tryd.prog 73 #[h6.val] w16 (onRet (fun r_5 w17 => ∃ x6 : Int, r_5 = .int .i64 x6 ∧
  Br (decide (mtu < IntKind.i64.wrap (x6 + 8)))
    (R (.returned (.tuple #[.slice none 0 0, .int .i64 133])) w17)
    (LoopVC (S := (Option Addr × Nat × Nat) × Int) (fun s_ w18 K4194300 => weirref13_Split6_L4194300 R mtu lA ln lc g3 x6 s_.1.1 s_.1.2.1 s_.1.2.2 s_.2 w18 K4194300) ((none, 0, 0), 0) w17))
    (fun ch5 w17 => R (.panicked ch5) w17))
set_option maxRecDepth 100000 in
def weirref13_Split6_VC (h : Ip6V) (mtu : Int) (id : Int) (w : World) (R : Ending → World → Prop) : Prop :=
  NewVC w (.cells h.cells.toArray 44) fun g1 w1 =>
  Ip6V.ex fun h1 => CellsAt w1 ⟨g1, 0, none⟩ 0 h1.cells ∧
  Calls Tryd.prog 72 #[h1.val] w1 (onRet (fun r_ w2 => ∃ x : Int, r_ = .int .i64 x ∧
  Br (decide (x ≠ 0))
    (R (.returned (.tuple #[.slice none 0 0, .int .i64 x])) w2)
    (Br (decide (mtu < 1280))
    (R (.returned (.tuple #[.slice none 0 0, .int .i64 132])) w2)
    (Br (decide ((65535 : Int) < mtu))
    (R (.returned (.tuple #[.slice none 0 0, .int .i64 132])) w2)
    (Br (decide (id < 0))
    (R (.returned (.tuple #[.slice none 0 0, .int .i64 1])) w2)
    (Br (decide ((4294967295 : Int) < id))
    (R (.returned (.tuple #[.slice none 0 0, .int .i64 1])) w2)
    (Ip6V.ex fun h2 => CellsAt w2 ⟨g1, 0, none⟩ 0 h2.cells ∧
  Calls Tryd.prog 73 #[h2.val] w2 (onRet (fun r_1 w3 => ∃ x1 : Int, r_1 = .int .i64 x1 ∧
  Br (decide (x1 ≤ mtu))
    (Ip6V.ex fun h3 => CellsAt w3 ⟨g1, 0, none⟩ 0 h3.cells ∧
    Calls Tryd.prog 19 #[h3.val] w3 (onRet (fun r_2 w4 => Ip6V.ex fun h4 => r_2 = h4.val ∧
    NewVC w4 (.cells h4.cells.toArray 44) fun g2 w5 =>
    R (.returned (.tuple #[.slice (some ⟨g2, 0, none⟩) 1 1, .int .i64 0])) w5)
      (fun ch2 w4 => R (.panicked ch2) w4)))
    (∃ x2 : Bool, w3.cell? ⟨g1, 38, none⟩ = some (.bool x2) ∧
  Br x2
    (R (.returned (.tuple #[.slice none 0 0, .int .i64 131])) w3)
    (∃ (xA : Option Addr) (xn xc : Nat), w3.cell? ⟨g1, 37, none⟩ = some (.slice xA xn xc) ∧
  Calls Tryd.prog 74 #[.slice xA xn xc] w3 (onRet (fun r_3 w6 => ∃ x3 : Int, r_3 = .int .i64 x3 ∧
  DrawVC w6 fun S1 w7 =>
  ∃ (xA1 : Option Addr) (xn1 xc1 : Nat), (∀ w' : World, S1 w' → w'.cell? ⟨g1, 37, none⟩ = some (.slice xA1 xn1 xc1)) ∧
  SliceVC xA1 xn1 xc1 3 (some x3) none none fun sA sn sc =>
  ∃ x4 : Int, (∀ w' : World, S1 w' → w'.cell? ⟨g1, 42, none⟩ = some (.int .i64 x4)) ∧
  Calls Tryd.prog 75 #[.slice sA sn sc, .int .i64 x4] w7 (onRet (fun r_4 w8 => ∃ (x0A : Option Addr) (x0n x0c : Nat), ∃ x11 : Int, r_4 = .tuple #[.slice x0A x0n x0c, .int .i64 x11] ∧
  S1 w8 ∧
  ∃ (xA2 : Option Addr) (xn2 xc2 : Nat), w8.cell? ⟨g1, 43, none⟩ = some (.slice xA2 xn2 xc2) ∧
  AppVC Tryd.prog #[26, 26] 26 (.slice x0A x0n x0c) (.slice xA2 xn2 xc2) w8 fun lA ln lc w9 =>
  Ip6V.ex fun h5 => CellsAt w9 ⟨g1, 0, none⟩ 0 h5.cells ∧
  NewVC w9 (.cells (Ip6V.z : Ip6V).cells.toArray 44) fun g3 w10 =>
  Stores ⟨g3, 0, none⟩ 0 h5.cells w10 fun w11 =>
  ∃ (xA3 : Option Addr) (xn3 xc3 : Nat), w11.cell? ⟨g1, 37, none⟩ = some (.slice xA3 xn3 xc3) ∧
  SliceVC xA3 xn3 xc3 3 none (some x3) none fun sA1 sn1 sc1 =>
  SetVC w11 ⟨g3, 37, none⟩ (.slice sA1 sn1 sc1) fun w12 =>
  Stores ⟨g3, 38, none⟩ 0 [.bool true, .bool false, .int .i64 id, .int .i64 0] w12 fun w13 =>
  JoinVC (S := Unit) (fun J16383 =>
      ∃ (xA4 : Option Addr) (xn4 xc4 : Nat), w13.cell? ⟨g1, 37, none⟩ = some (.slice xA4 xn4 xc4) ∧
      Br (decide (x3 < (xn4 : Int)))
        (∃ (xA5 : Option Addr) (xn5 xc5 : Nat), w13.cell? ⟨g1, 37, none⟩ = some (.slice xA5 xn5 xc5) ∧
        IdxVC xA5 xn5 3 x3 fun a =>
        ∃ x5 : Int, w13.cell? a = some (.int .i64 x5) ∧
        SetVC w13 ⟨g3, 42, none⟩ (.int .i64 x5) fun w14 =>
        J16383 () w14)
        (J16383 () w13))
    (fun _ w15 => weirref13_Split6_J16383 R mtu lA ln lc g3 w15))
    (fun _ _ => False)))
    (fun ch3 w6 => R (.panicked ch3) w6)))))
    (fun ch1 w3 => R (.panicked ch1) w3))))))))
    (fun ch w2 => R (.panicked ch) w2))
def weirref13_Split6_H : Hints := [(16383, []), (4194300, [(14, .slice), (15, .int .i64)])]
set_option maxRecDepth 100000 in
theorem weirref13_Split6_of (h : Ip6V) (mtu : Int) (id : Int) (w : World) (R : Ending → World → Prop) (hvc_ : weirref13_Split6_VC h mtu id w R) :
    Calls Tryd.prog 36 #[h.val, .int .i64 mtu, .int .i64 id] w R :=
  calls_of_wpc callOk mixedOk (H := weirref13_Split6_H) (args := [h.val, .int .i64 mtu, .int .i64 id]) (fn := Tryd.f36) (c := bodyOf Tryd.f36) Tryd.func36 rfl (Nat.le_of_ble_eq_true rfl)
    (Eq.mp (by kernel_rfl : weirref13_Split6_VC h mtu id w R = wpc Tryd.prog callF Tryd.f36.ntmps weirref13_Split6_H 1 (bodyOf Tryd.f36) (argEnv 0 [h.val, .int .i64 mtu, .int .i64 id]) [] w (finish Tryd.prog callF Tryd.f36.results.toList R)) hvc_)

set_option maxRecDepth 100000 in
def weirlaw13_roomy_L122 (R : Ending → World → Prop)  (wA : Option Addr) (wn : Nat) (wc : Nat) (i : Int) (w2 : World) (K122 : ((Option Addr × Nat × Nat) × Int → World → Prop)) : Prop :=
  Br (decide (i < 75))
    (NewVC w2 (.cells #[.int .u8 (IntKind.u8.wrap (IntKind.i64.wrap (201 + Int.tmod i 5)))] 5) fun g1 w3 =>
  AppVC Tryd.prog #[26, 26] 26 (.slice wA wn wc) (.slice (some ⟨g1, 0, none⟩) 1 1) w3 fun lA1 ln1 lc1 w4 =>
  K122 ((lA1, ln1, lc1), IntKind.i64.wrap (i + 1)) w4)
    (R (.returned (.slice wA wn wc)) w2)
set_option maxRecDepth 100000 in
def weirlaw13_roomy_VC (bA : Option Addr) (bn : Nat) (bc : Nat) (w : World) (R : Ending → World → Prop) : Prop :=
  AppVC Tryd.prog #[26, 26] 26 (.slice none 0 0) (.slice bA bn bc) w fun lA ln lc w1 =>
  LoopVC (S := (Option Addr × Nat × Nat) × Int) (fun s_ w2 K122 => weirlaw13_roomy_L122 R s_.1.1 s_.1.2.1 s_.1.2.2 s_.2 w2 K122) ((lA, ln, lc), 0) w1
def weirlaw13_roomy_H : Hints := [(122, [(3, .slice), (4, .int .i64)])]
set_option maxRecDepth 100000 in
theorem weirlaw13_roomy_of (bA : Option Addr) (bn : Nat) (bc : Nat) (w : World) (R : Ending → World → Prop) (hvc_ : weirlaw13_roomy_VC bA bn bc w R) :
    Calls Tryd.prog 61 #[.slice bA bn bc] w R :=
  calls_of_wpc callOk mixedOk (H := weirlaw13_roomy_H) (args := [.slice bA bn bc]) (fn := Tryd.f61) (c := bodyOf Tryd.f61) Tryd.func61 rfl (Nat.le_of_ble_eq_true rfl)
    (Eq.mp (by kernel_rfl : weirlaw13_roomy_VC bA bn bc w R = wpc Tryd.prog callF Tryd.f61.ntmps weirlaw13_roomy_H 1 (bodyOf Tryd.f61) (argEnv 0 [.slice bA bn bc]) [] w (finish Tryd.prog callF Tryd.f61.results.toList R)) hvc_)

set_option maxRecDepth 100000 in
def weirlaw13_laidOpts_L250 (R : Ending → World → Prop) (ln : Nat) (wA : Option Addr) (wn : Nat) (wc : Nat) (mA1 : Option Addr) (mn1 : Nat) (mc1 : Nat) (i1 : Int) (w8 : World) (K250 : ((Option Addr × Nat × Nat) × Int → World → Prop)) : Prop :=
  Br (decide (i1 < 20))
    (NewVC w8 (.cells #[.int .i64 (-201), .slice none 0 0] 94) fun g3 w9 =>
  AppVC Tryd.prog #[25, 25] 25 (.slice mA1 mn1 mc1) (.slice (some ⟨g3, 0, none⟩) 1 1) w9 fun lA3 ln3 lc3 w10 =>
  K250 ((lA3, ln3, lc3), IntKind.i64.wrap (i1 + 1)) w10)
    (SliceVC mA1 mn1 mc1 2 none (some (ln : Int)) none fun sA1 sn1 sc1 =>
  R (.returned (.tuple #[.slice sA1 sn1 sc1, .slice wA wn wc])) w8)
set_option maxRecDepth 100000 in
def weirlaw13_laidOpts_L122 (R : Ending → World → Prop) (lA : Option Addr) (ln : Nat) (mA : Option Addr) (mn : Nat) (mc : Nat) (wA : Option Addr) (wn : Nat) (wc : Nat) (i : Int) (w1 : World) (K122 : ((Option Addr × Nat × Nat) × (Option Addr × Nat × Nat) × Int → World → Prop)) : Prop :=
  Br (decide (i < (ln : Int)))
    (IdxVC lA ln 2 i fun a =>
  ∃ (xA : Option Addr) (xn xc : Nat), w1.cell? (a.add 1) = some (.slice xA xn xc) ∧
  Calls Tryd.prog 61 #[.slice xA xn xc] w1 (onRet (fun r_ w2 => ∃ (xA1 : Option Addr) (xn1 xc1 : Nat), r_ = .slice xA1 xn1 xc1 ∧
  NewVC w2 (.cells #[.slice xA1 xn1 xc1] 26) fun g1 w3 =>
  AppVC Tryd.prog #[49, 49] 49 (.slice wA wn wc) (.slice (some ⟨g1, 0, none⟩) 1 1) w3 fun lA1 ln1 lc1 w4 =>
  DrawVC w4 fun S1 w5 =>
  IdxVC lA ln 2 i fun a1 =>
  ∃ x : Int, (∀ w' : World, S1 w' → w'.cell? a1 = some (.int .i64 x)) ∧
  IdxVC lA ln 2 i fun a2 =>
  ∃ (xA2 : Option Addr) (xn2 xc2 : Nat), (∀ w' : World, S1 w' → w'.cell? (a2.add 1) = some (.slice xA2 xn2 xc2)) ∧
  SliceVC xA1 xn1 xc1 1 none (some (xn2 : Int)) none fun sA sn sc =>
  NewVC w5 (.cells #[.int .i64 x, .slice sA sn sc] 94) fun g2 w6 =>
  S1 w6 ∧
  AppVC Tryd.prog #[25, 25] 25 (.slice mA mn mc) (.slice (some ⟨g2, 0, none⟩) 1 1) w6 fun lA2 ln2 lc2 w7 =>
  S1 w7 ∧
  K122 ((lA2, ln2, lc2), (lA1, ln1, lc1), IntKind.i64.wrap (i + 1)) w7)
    (fun ch w2 => R (.panicked ch) w2)))
    (LoopVC (S := (Option Addr × Nat × Nat) × Int) (fun s_ w8 K250 => weirlaw13_laidOpts_L250 R ln wA wn wc s_.1.1 s_.1.2.1 s_.1.2.2 s_.2 w8 K250) ((mA, mn, mc), 0) w1)
set_option maxRecDepth 100000 in
def weirlaw13_laidOpts_VC (lA : Option Addr) (ln : Nat) (_lc : Nat) (w : World) (R : Ending → World → Prop) : Prop :=
  LoopVC (S := (Option Addr × Nat × Nat) × (Option Addr × Nat × Nat) × Int) (fun s_ w1 K122 => weirlaw13_laidOpts_L122 R lA ln s_.1.1 s_.1.2.1 s_.1.2.2 s_.2.1.1 s_.2.1.2.1 s_.2.1.2.2 s_.2.2 w1 K122) ((none, 0, 0), (none, 0, 0), 0) w
def weirlaw13_laidOpts_H : Hints := [(122, [(4, .slice), (5, .slice), (6, .int .i64)]), (250, [(4, .slice), (8, .int .i64)])]
set_option maxRecDepth 100000 in
theorem weirlaw13_laidOpts_of (lA : Option Addr) (ln : Nat) (lc : Nat) (w : World) (R : Ending → World → Prop) (hvc_ : weirlaw13_laidOpts_VC lA ln lc w R) :
    Calls Tryd.prog 62 #[.slice lA ln lc] w R :=
  calls_of_wpc callOk mixedOk (H := weirlaw13_laidOpts_H) (args := [.slice lA ln lc]) (fn := Tryd.f62) (c := bodyOf Tryd.f62) Tryd.func62 rfl (Nat.le_of_ble_eq_true rfl)
    (Eq.mp (by kernel_rfl : weirlaw13_laidOpts_VC lA ln lc w R = wpc Tryd.prog callF Tryd.f62.ntmps weirlaw13_laidOpts_H 1 (bodyOf Tryd.f62) (argEnv 0 [.slice lA ln lc]) [] w (finish Tryd.prog callF Tryd.f62.results.toList R)) hvc_)

set_option maxRecDepth 100000 in
def weirlaw13_laidExts_L250 (R : Ending → World → Prop) (ln : Nat) (wA : Option Addr) (wn : Nat) (wc : Nat) (mA1 : Option Addr) (mn1 : Nat) (mc1 : Nat) (i1 : Int) (w10 : World) (K250 : ((Option Addr × Nat × Nat) × Int → World → Prop)) : Prop :=
  Br (decide (i1 < 20))
    (NewVC w10 (.cells #[.int .i64 (-202), .slice none 0 0, .slice none 0 0] 80) fun g3 w11 =>
  AppVC Tryd.prog #[40, 40] 40 (.slice mA1 mn1 mc1) (.slice (some ⟨g3, 0, none⟩) 1 1) w11 fun lA4 ln4 lc4 w12 =>
  K250 ((lA4, ln4, lc4), IntKind.i64.wrap (i1 + 1)) w12)
    (SliceVC mA1 mn1 mc1 3 none (some (ln : Int)) none fun sA1 sn1 sc1 =>
  R (.returned (.tuple #[.slice sA1 sn1 sc1, .slice wA wn wc])) w10)
set_option maxRecDepth 100000 in
def weirlaw13_laidExts_L122 (R : Ending → World → Prop) (lA : Option Addr) (ln : Nat) (mA : Option Addr) (mn : Nat) (mc : Nat) (wA : Option Addr) (wn : Nat) (wc : Nat) (i : Int) (w1 : World) (K122 : ((Option Addr × Nat × Nat) × (Option Addr × Nat × Nat) × Int → World → Prop)) : Prop :=
  Br (decide (i < (ln : Int)))
    (IdxVC lA ln 3 i fun a =>
  ∃ (xA : Option Addr) (xn xc : Nat), w1.cell? (a.add 1) = some (.slice xA xn xc) ∧
  Calls Tryd.prog 62 #[.slice xA xn xc] w1 (onRet (fun r_ w2 => ∃ (x0A : Option Addr) (x0n x0c : Nat), ∃ (x1A : Option Addr) (x1n x1c : Nat), r_ = .tuple #[.slice x0A x0n x0c, .slice x1A x1n x1c] ∧
  IdxVC lA ln 3 i fun a1 =>
  ∃ (xA1 : Option Addr) (xn1 xc1 : Nat), w2.cell? (a1.add 2) = some (.slice xA1 xn1 xc1) ∧
  Calls Tryd.prog 61 #[.slice xA1 xn1 xc1] w2 (onRet (fun r_1 w3 => ∃ (xA2 : Option Addr) (xn2 xc2 : Nat), r_1 = .slice xA2 xn2 xc2 ∧
  AppVC Tryd.prog #[49, 49] 49 (.slice wA wn wc) (.slice x1A x1n x1c) w3 fun lA1 ln1 lc1 w4 =>
  NewVC w4 (.cells #[.slice xA2 xn2 xc2] 26) fun g1 w5 =>
  AppVC Tryd.prog #[49, 49] 49 (.slice lA1 ln1 lc1) (.slice (some ⟨g1, 0, none⟩) 1 1) w5 fun lA2 ln2 lc2 w6 =>
  DrawVC w6 fun S1 w7 =>
  IdxVC lA ln 3 i fun a2 =>
  ∃ x : Int, (∀ w' : World, S1 w' → w'.cell? a2 = some (.int .i64 x)) ∧
  IdxVC lA ln 3 i fun a3 =>
  ∃ (xA3 : Option Addr) (xn3 xc3 : Nat), (∀ w' : World, S1 w' → w'.cell? (a3.add 2) = some (.slice xA3 xn3 xc3)) ∧
  SliceVC xA2 xn2 xc2 1 none (some (xn3 : Int)) none fun sA sn sc =>
  NewVC w7 (.cells #[.int .i64 x, .slice x0A x0n x0c, .slice sA sn sc] 80) fun g2 w8 =>
  S1 w8 ∧
  AppVC Tryd.prog #[40, 40] 40 (.slice mA mn mc) (.slice (some ⟨g2, 0, none⟩) 1 1) w8 fun lA3 ln3 lc3 w9 =>
  S1 w9 ∧
  K122 ((lA3, ln3, lc3), (lA2, ln2, lc2), IntKind.i64.wrap (i + 1)) w9)
    (fun ch1 w3 => R (.panicked ch1) w3)))
    (fun ch w2 => R (.panicked ch) w2)))
    (LoopVC (S := (Option Addr × Nat × Nat) × Int) (fun s_ w10 K250 => weirlaw13_laidExts_L250 R ln wA wn wc s_.1.1 s_.1.2.1 s_.1.2.2 s_.2 w10 K250) ((mA, mn, mc), 0) w1)
set_option maxRecDepth 100000 in
def weirlaw13_laidExts_VC (lA : Option Addr) (ln : Nat) (_lc : Nat) (w : World) (R : Ending → World → Prop) : Prop :=
  LoopVC (S := (Option Addr × Nat × Nat) × (Option Addr × Nat × Nat) × Int) (fun s_ w1 K122 => weirlaw13_laidExts_L122 R lA ln s_.1.1 s_.1.2.1 s_.1.2.2 s_.2.1.1 s_.2.1.2.1 s_.2.1.2.2 s_.2.2 w1 K122) ((none, 0, 0), (none, 0, 0), 0) w
def weirlaw13_laidExts_H : Hints := [(122, [(4, .slice), (5, .slice), (6, .int .i64)]), (250, [(4, .slice), (10, .int .i64)])]
set_option maxRecDepth 100000 in
theorem weirlaw13_laidExts_of (lA : Option Addr) (ln : Nat) (lc : Nat) (w : World) (R : Ending → World → Prop) (hvc_ : weirlaw13_laidExts_VC lA ln lc w R) :
    Calls Tryd.prog 65 #[.slice lA ln lc] w R :=
  calls_of_wpc callOk mixedOk (H := weirlaw13_laidExts_H) (args := [.slice lA ln lc]) (fn := Tryd.f65) (c := bodyOf Tryd.f65) Tryd.func65 rfl (Nat.le_of_ble_eq_true rfl)
    (Eq.mp (by kernel_rfl : weirlaw13_laidExts_VC lA ln lc w R = wpc Tryd.prog callF Tryd.f65.ntmps weirlaw13_laidExts_H 1 (bodyOf Tryd.f65) (argEnv 0 [.slice lA ln lc]) [] w (finish Tryd.prog callF Tryd.f65.results.toList R)) hvc_)

set_option maxRecDepth 100000 in
def weirlaw13_sameAll_L58 (R : Ending → World → Prop) (aA : Option Addr) (an : Nat) (bA : Option Addr) (bn : Nat) (i : Int) (w1 : World) (K58 : (Int → World → Prop)) : Prop :=
  Br (decide (i < (an : Int)))
    (DrawVC w1 fun S1 w2 =>
  IdxVC aA an 1 i fun a =>
  ∃ (xA : Option Addr) (xn xc : Nat), (∀ w' : World, S1 w' → w'.cell? a = some (.slice xA xn xc)) ∧
  IdxVC bA bn 1 i fun a1 =>
  ∃ (xA1 : Option Addr) (xn1 xc1 : Nat), (∀ w' : World, S1 w' → w'.cell? a1 = some (.slice xA1 xn1 xc1)) ∧
  Calls Tryd.prog 17 #[.slice xA xn xc, .slice xA1 xn1 xc1] w2 (onRet (fun r_ w3 => ∃ x : Bool, r_ = .bool x ∧
  S1 w3 ∧
  Br (!x)
    (R (.returned (.bool false)) w3)
    (K58 (IntKind.i64.wrap (i + 1)) w3))
    (fun _ _ => False)))
    (R (.returned (.bool true)) w1)
set_option maxRecDepth 100000 in
def weirlaw13_sameAll_VC (aA : Option Addr) (an : Nat) (_ac : Nat) (bA : Option Addr) (bn : Nat) (_bc : Nat) (w : World) (R : Ending → World → Prop) : Prop :=
  Br (decide ((an : Int) ≠ (bn : Int)))
    (R (.returned (.bool false)) w)
    (LoopVC (S := Int) (fun s_ w1 K58 => weirlaw13_sameAll_L58 R aA an bA bn s_ w1 K58) 0 w)
def weirlaw13_sameAll_H : Hints := [(58, [(5, .int .i64)])]
set_option maxRecDepth 100000 in
theorem weirlaw13_sameAll_of (aA : Option Addr) (an : Nat) (ac : Nat) (bA : Option Addr) (bn : Nat) (bc : Nat) (w : World) (R : Ending → World → Prop) (hvc_ : weirlaw13_sameAll_VC aA an ac bA bn bc w R) :
    Calls Tryd.prog 63 #[.slice aA an ac, .slice bA bn bc] w R :=
  calls_of_wpc callOk mixedOk (H := weirlaw13_sameAll_H) (args := [.slice aA an ac, .slice bA bn bc]) (fn := Tryd.f63) (c := bodyOf Tryd.f63) Tryd.func63 rfl (Nat.le_of_ble_eq_true rfl)
    (Eq.mp (by kernel_rfl : weirlaw13_sameAll_VC aA an ac bA bn bc w R = wpc Tryd.prog callF Tryd.f63.ntmps weirlaw13_sameAll_H 1 (bodyOf Tryd.f63) (argEnv 0 [.slice aA an ac, .slice bA bn bc]) [] w (finish Tryd.prog callF Tryd.f63.results.toList R)) hvc_)

set_option maxRecDepth 100000 in
def weirlaw13_marks_L58 (R : Ending → World → Prop) (sA : Option Addr) (sn : Nat) (i : Int) (w1 : World) (K58 : (Int → World → Prop)) : Prop :=
  Br (decide (i < (sn : Int)))
    (IdxVC sA sn 2 i fun a =>
  ∃ x : Int, w1.cell? a = some (.int .i64 x) ∧
  Br (decide (x ≠ (-201)))
    (R (.returned (.bool false)) w1)
    (K58 (IntKind.i64.wrap (i + 1)) w1))
    (R (.returned (.bool true)) w1)
set_option maxRecDepth 100000 in
def weirlaw13_marks_VC (lA : Option Addr) (ln : Nat) (lc : Nat) (w : World) (R : Ending → World → Prop) : Prop :=
  SliceVC lA ln lc 2 none (some (IntKind.i64.wrap ((ln : Int) + 20))) none fun sA sn _sc =>
  LoopVC (S := Int) (fun s_ w1 K58 => weirlaw13_marks_L58 R sA sn s_ w1 K58) (ln : Int) w
def weirlaw13_marks_H : Hints := [(58, [(4, .int .i64)])]
set_option maxRecDepth 100000 in
theorem weirlaw13_marks_of (lA : Option Addr) (ln : Nat) (lc : Nat) (w : World) (R : Ending → World → Prop) (hvc_ : weirlaw13_marks_VC lA ln lc w R) :
    Calls Tryd.prog 64 #[.slice lA ln lc] w R :=
  calls_of_wpc callOk mixedOk (H := weirlaw13_marks_H) (args := [.slice lA ln lc]) (fn := Tryd.f64) (c := bodyOf Tryd.f64) Tryd.func64 rfl (Nat.le_of_ble_eq_true rfl)
    (Eq.mp (by kernel_rfl : weirlaw13_marks_VC lA ln lc w R = wpc Tryd.prog callF Tryd.f64.ntmps weirlaw13_marks_H 1 (bodyOf Tryd.f64) (argEnv 0 [.slice lA ln lc]) [] w (finish Tryd.prog callF Tryd.f64.results.toList R)) hvc_)

set_option maxRecDepth 100000 in
def weirlaw13_cuts4_VC (h : Ip4V) (mtu : Int) (w : World) (R : Ending → World → Prop) : Prop :=
  NewVC w (.cells h.cells.toArray 28) fun g1 w1 =>
  ∃ (xA : Option Addr) (xn xc : Nat), w1.cell? ⟨g1, 42, none⟩ = some (.slice xA xn xc) ∧
  Calls Tryd.prog 61 #[.slice xA xn xc] w1 (onRet (fun r_ w2 => ∃ (xA1 : Option Addr) (xn1 xc1 : Nat), r_ = .slice xA1 xn1 xc1 ∧
  ∃ (xA2 : Option Addr) (xn2 xc2 : Nat), w2.cell? ⟨g1, 41, none⟩ = some (.slice xA2 xn2 xc2) ∧
  Calls Tryd.prog 62 #[.slice xA2 xn2 xc2] w2 (onRet (fun r_1 w3 => ∃ (x0A : Option Addr) (x0n x0c : Nat), ∃ (x1A : Option Addr) (x1n x1c : Nat), r_1 = .tuple #[.slice x0A x0n x0c, .slice x1A x1n x1c] ∧
  Ip4V.ex fun h1 => CellsAt w3 ⟨g1, 0, none⟩ 0 h1.cells ∧
  NewVC w3 (.cells (Ip4V.z : Ip4V).cells.toArray 28) fun g2 w4 =>
  Stores ⟨g2, 0, none⟩ 0 h1.cells w4 fun w5 =>
  ∃ (xA3 : Option Addr) (xn3 xc3 : Nat), w5.cell? ⟨g1, 42, none⟩ = some (.slice xA3 xn3 xc3) ∧
  SliceVC xA1 xn1 xc1 1 none (some (xn3 : Int)) none fun sA sn sc =>
  SetVC w5 ⟨g2, 42, none⟩ (.slice sA sn sc) fun w6 =>
  SetVC w6 ⟨g2, 41, none⟩ (.slice x0A x0n x0c) fun w7 =>
  Ip4V.ex fun h2 => CellsAt w7 ⟨g2, 0, none⟩ 0 h2.cells ∧
  Calls Tryd.prog 12 #[h2.val, .int .i64 mtu] w7 (onRet (fun r_2 w8 => ∃ (x0A1 : Option Addr) (x0n1 x0c1 : Nat), ∃ x1 : Int, r_2 = .tuple #[.slice x0A1 x0n1 x0c1, .int .i64 x1] ∧
  Ip4V.ex fun h3 => CellsAt w8 ⟨g1, 0, none⟩ 0 h3.cells ∧
  Calls Tryd.prog 35 #[h3.val, .int .i64 mtu] w8 (onRet (fun r_3 w9 => ∃ (x0A2 : Option Addr) (x0n2 x0c2 : Nat), ∃ x11 : Int, r_3 = .tuple #[.slice x0A2 x0n2 x0c2, .int .i64 x11] ∧
  Ip4V.ex fun h4 => CellsAt w9 ⟨g2, 0, none⟩ 0 h4.cells ∧
  Calls Tryd.prog 37 #[h4.val, .int .i64 mtu] w9 (onRet (fun r_4 w10 => ∃ x : Bool, r_4 = .bool x ∧
  Calls Tryd.prog 13 #[.int .i64 x1] w10 (onRet (fun r_5 w11 => ∃ x2 : Int, r_5 = .int .i64 x2 ∧
  Br (decide (x2 ≠ x11))
    (R (.returned (.bool false)) w11)
    (Calls Tryd.prog 28 #[.slice x0A1 x0n1 x0c1, .slice x0A2 x0n2 x0c2] w11 (onRet (fun r_6 w12 => ∃ x3 : Bool, r_6 = .bool x3 ∧
    Br (!x3)
      (R (.returned (.bool false)) w12)
      (Ip4V.ex fun h5 => CellsAt w12 ⟨g1, 0, none⟩ 0 h5.cells ∧
      Calls Tryd.prog 38 #[h5.val, .int .i64 mtu] w12 (onRet (fun r_7 w13 => ∃ x4 : Bool, r_7 = .bool x4 ∧
      Br (!(x == x4))
    (R (.returned (.bool false)) w13)
    (∃ (xA4 : Option Addr) (xn4 xc4 : Nat), w13.cell? ⟨g1, 41, none⟩ = some (.slice xA4 xn4 xc4) ∧
  Calls Tryd.prog 62 #[.slice xA4 xn4 xc4] w13 (onRet (fun r_8 w14 => ∃ (x0A3 : Option Addr) (x0n3 x0c3 : Nat), ∃ (x1A1 : Option Addr) (x1n1 x1c1 : Nat), r_8 = .tuple #[.slice x0A3 x0n3 x0c3, .slice x1A1 x1n1 x1c1] ∧
  Ip4V.ex fun h6 => CellsAt w14 ⟨g2, 0, none⟩ 0 h6.cells ∧
  Ip4V.ex fun h7 => CellsAt w14 ⟨g1, 0, none⟩ 0 h7.cells ∧
  Calls Tryd.prog 16 #[h6.val, h7.val] w14 (onRet (fun r_9 w15 => ∃ x5 : Bool, r_9 = .bool x5 ∧
  Br x5
    (∃ (xA5 : Option Addr) (xn5 xc5 : Nat), w15.cell? ⟨g1, 42, none⟩ = some (.slice xA5 xn5 xc5) ∧
    Calls Tryd.prog 61 #[.slice xA5 xn5 xc5] w15 (onRet (fun r_10 w16 => ∃ (xA6 : Option Addr) (xn6 xc6 : Nat), r_10 = .slice xA6 xn6 xc6 ∧
    Calls Tryd.prog 17 #[.slice xA1 xn1 xc1, .slice xA6 xn6 xc6] w16 (onRet (fun r_11 w17 => ∃ x6 : Bool, r_11 = .bool x6 ∧
    Br x6
      (Calls Tryd.prog 63 #[.slice x1A x1n x1c, .slice x1A1 x1n1 x1c1] w17 (onRet (fun r_12 w18 => ∃ x7 : Bool, r_12 = .bool x7 ∧
      Br x7
        (Calls Tryd.prog 64 #[.slice x0A x0n x0c] w18 (onRet (fun r_13 w19 => ∃ x8 : Bool, r_13 = .bool x8 ∧
        R (.returned (.bool x8)) w19)
          (fun ch13 w19 => R (.panicked ch13) w19)))
        (R (.returned (.bool false)) w18))
        (fun ch12 w18 => R (.panicked ch12) w18)))
      (R (.returned (.bool false)) w17))
      (fun ch11 w17 => R (.panicked ch11) w17)))
      (fun ch10 w16 => R (.panicked ch10) w16)))
    (R (.returned (.bool false)) w15))
    (fun ch9 w15 => R (.panicked ch9) w15)))
    (fun ch8 w14 => R (.panicked ch8) w14))))
        (fun ch7 w13 => R (.panicked ch7) w13))))
      (fun ch6 w12 => R (.panicked ch6) w12))))
    (fun ch5 w11 => R (.panicked ch5) w11)))
    (fun ch4 w10 => R (.panicked ch4) w10)))
    (fun ch3 w9 => R (.panicked ch3) w9)))
    (fun ch2 w8 => R (.panicked ch2) w8)))
    (fun ch1 w3 => R (.panicked ch1) w3)))
    (fun ch w2 => R (.panicked ch) w2))
def weirlaw13_cuts4_H : Hints := []
set_option maxRecDepth 100000 in
theorem weirlaw13_cuts4_of (h : Ip4V) (mtu : Int) (w : World) (R : Ending → World → Prop) (hvc_ : weirlaw13_cuts4_VC h mtu w R) :
    Calls Tryd.prog 30 #[h.val, .int .i64 mtu] w R :=
  calls_of_wpc callOk mixedOk (H := weirlaw13_cuts4_H) (args := [h.val, .int .i64 mtu]) (fn := Tryd.f30) (c := bodyOf Tryd.f30) Tryd.func30 rfl (Nat.le_of_ble_eq_true rfl)
    (Eq.mp (by kernel_rfl : weirlaw13_cuts4_VC h mtu w R = wpc Tryd.prog callF Tryd.f30.ntmps weirlaw13_cuts4_H 1 (bodyOf Tryd.f30) (argEnv 0 [h.val, .int .i64 mtu]) [] w (finish Tryd.prog callF Tryd.f30.results.toList R)) hvc_)

set_option maxRecDepth 100000 in
def weirlaw13_cuts6_L131066 (R : Ending → World → Prop) (g1 : Nat) (xA1 : Option Addr) (xn1 : Nat) (xc1 : Nat) (x1A : Option Addr) (x1n : Nat) (x1c : Nat) (g2 : Nat) (x1A1 : Option Addr) (x1n1 : Nat) (x1c1 : Nat) (sA1 : Option Addr) (sn1 : Nat) (i1 : Int) (w17 : World) (K131066 : (Int → World → Prop)) : Prop :=
  Br (decide (i1 < (sn1 : Int)))
    (IdxVC sA1 sn1 3 i1 fun a1 =>
  ∃ x6 : Int, w17.cell? a1 = some (.int .i64 x6) ∧
  Br (decide (x6 ≠ (-202)))
    (R (.returned (.bool false)) w17)
    (K131066 (IntKind.i64.wrap (i1 + 1)) w17))
    (Ip6V.ex fun h6 => CellsAt w17 ⟨g2, 0, none⟩ 0 h6.cells ∧
  Ip6V.ex fun h7 => CellsAt w17 ⟨g1, 0, none⟩ 0 h7.cells ∧
  Calls Tryd.prog 25 #[h6.val, h7.val] w17 (onRet (fun r_10 w18 => ∃ x7 : Bool, r_10 = .bool x7 ∧
  Br x7
    (∃ (xA6 : Option Addr) (xn6 xc6 : Nat), w18.cell? ⟨g1, 43, none⟩ = some (.slice xA6 xn6 xc6) ∧
    Calls Tryd.prog 61 #[.slice xA6 xn6 xc6] w18 (onRet (fun r_11 w19 => ∃ (xA7 : Option Addr) (xn7 xc7 : Nat), r_11 = .slice xA7 xn7 xc7 ∧
    Calls Tryd.prog 17 #[.slice xA1 xn1 xc1, .slice xA7 xn7 xc7] w19 (onRet (fun r_12 w20 => ∃ x8 : Bool, r_12 = .bool x8 ∧
    Br x8
      (Calls Tryd.prog 63 #[.slice x1A x1n x1c, .slice x1A1 x1n1 x1c1] w20 (onRet (fun r_13 w21 => ∃ x9 : Bool, r_13 = .bool x9 ∧
      R (.returned (.bool x9)) w21)
        (fun ch13 w21 => R (.panicked ch13) w21)))
      (R (.returned (.bool false)) w20))
      (fun ch12 w20 => R (.panicked ch12) w20)))
      (fun ch11 w19 => R (.panicked ch11) w19)))
    (R (.returned (.bool false)) w18))
    (fun ch10 w18 => R (.panicked ch10) w18)))
set_option maxRecDepth 100000 in
def weirlaw13_cuts6_L32762 (R : Ending → World → Prop) (g1 : Nat) (xA1 : Option Addr) (xn1 : Nat) (xc1 : Nat) (x0A : Option Addr) (x0n : Nat) (x0c : Nat) (x1A : Option Addr) (x1n : Nat) (x1c : Nat) (g2 : Nat) (x1A1 : Option Addr) (x1n1 : Nat) (x1c1 : Nat) (i : Int) (w15 : World) (K32762 : (Int → World → Prop)) : Prop :=
  Br (decide (i < (x0n : Int)))
    (IdxVC x0A x0n 3 i fun a =>
  ∃ (xA5 : Option Addr) (xn5 xc5 : Nat), w15.cell? (a.add 1) = some (.slice xA5 xn5 xc5) ∧
  Calls Tryd.prog 64 #[.slice xA5 xn5 xc5] w15 (onRet (fun r_9 w16 => ∃ x5 : Bool, r_9 = .bool x5 ∧
  Br (!x5)
    (R (.returned (.bool false)) w16)
    (K32762 (IntKind.i64.wrap (i + 1)) w16))
    (fun ch9 w16 => R (.panicked ch9) w16)))
    (SliceVC x0A x0n x0c 3 none (some (IntKind.i64.wrap ((x0n : Int) + 20))) none fun sA1 sn1 _sc1 =>
  LoopVC (S := Int) (fun s_ w17 K131066 => weirlaw13_cuts6_L131066 R g1 xA1 xn1 xc1 x1A x1n x1c g2 x1A1 x1n1 x1c1 sA1 sn1 s_ w17 K131066) (x0n : Int) w15)
set_option maxRecDepth 100000 in
def weirlaw13_cuts6_VC (h : Ip6V) (mtu : Int) (id : Int) (w : World) (R : Ending → World → Prop) : Prop :=
  NewVC w (.cells h.cells.toArray 44) fun g1 w1 =>
  ∃ (xA : Option Addr) (xn xc : Nat), w1.cell? ⟨g1, 43, none⟩ = some (.slice xA xn xc) ∧
  Calls Tryd.prog 61 #[.slice xA xn xc] w1 (onRet (fun r_ w2 => ∃ (xA1 : Option Addr) (xn1 xc1 : Nat), r_ = .slice xA1 xn1 xc1 ∧
  ∃ (xA2 : Option Addr) (xn2 xc2 : Nat), w2.cell? ⟨g1, 37, none⟩ = some (.slice xA2 xn2 xc2) ∧
  Calls Tryd.prog 65 #[.slice xA2 xn2 xc2] w2 (onRet (fun r_1 w3 => ∃ (x0A : Option Addr) (x0n x0c : Nat), ∃ (x1A : Option Addr) (x1n x1c : Nat), r_1 = .tuple #[.slice x0A x0n x0c, .slice x1A x1n x1c] ∧
  Ip6V.ex fun h1 => CellsAt w3 ⟨g1, 0, none⟩ 0 h1.cells ∧
  NewVC w3 (.cells (Ip6V.z : Ip6V).cells.toArray 44) fun g2 w4 =>
  Stores ⟨g2, 0, none⟩ 0 h1.cells w4 fun w5 =>
  ∃ (xA3 : Option Addr) (xn3 xc3 : Nat), w5.cell? ⟨g1, 43, none⟩ = some (.slice xA3 xn3 xc3) ∧
  SliceVC xA1 xn1 xc1 1 none (some (xn3 : Int)) none fun sA sn sc =>
  SetVC w5 ⟨g2, 43, none⟩ (.slice sA sn sc) fun w6 =>
  SetVC w6 ⟨g2, 37, none⟩ (.slice x0A x0n x0c) fun w7 =>
  Ip6V.ex fun h2 => CellsAt w7 ⟨g2, 0, none⟩ 0 h2.cells ∧
  Calls Tryd.prog 20 #[h2.val, .int .i64 mtu, .int .i64 id] w7 (onRet (fun r_2 w8 => ∃ (x0A1 : Option Addr) (x0n1 x0c1 : Nat), ∃ x1 : Int, r_2 = .tuple #[.slice x0A1 x0n1 x0c1, .int .i64 x1] ∧
  Ip6V.ex fun h3 => CellsAt w8 ⟨g1, 0, none⟩ 0 h3.cells ∧
  Calls Tryd.prog 36 #[h3.val, .int .i64 mtu, .int .i64 id] w8 (onRet (fun r_3 w9 => ∃ (x0A2 : Option Addr) (x0n2 x0c2 : Nat), ∃ x11 : Int, r_3 = .tuple #[.slice x0A2 x0n2 x0c2, .int .i64 x11] ∧
  Ip6V.ex fun h4 => CellsAt w9 ⟨g2, 0, none⟩ 0 h4.cells ∧
  Calls Tryd.prog 33 #[h4.val, .int .i64 mtu] w9 (onRet (fun r_4 w10 => ∃ x : Bool, r_4 = .bool x ∧
  Calls Tryd.prog 13 #[.int .i64 x1] w10 (onRet (fun r_5 w11 => ∃ x2 : Int, r_5 = .int .i64 x2 ∧
  Br (decide (x2 ≠ x11))
    (R (.returned (.bool false)) w11)
    (Calls Tryd.prog 29 #[.slice x0A1 x0n1 x0c1, .slice x0A2 x0n2 x0c2] w11 (onRet (fun r_6 w12 => ∃ x3 : Bool, r_6 = .bool x3 ∧
    Br (!x3)
      (R (.returned (.bool false)) w12)
      (Ip6V.ex fun h5 => CellsAt w12 ⟨g1, 0, none⟩ 0 h5.cells ∧
      Calls Tryd.prog 39 #[h5.val, .int .i64 mtu] w12 (onRet (fun r_7 w13 => ∃ x4 : Bool, r_7 = .bool x4 ∧
      Br (!(x == x4))
    (R (.returned (.bool false)) w13)
    (∃ (xA4 : Option Addr) (xn4 xc4 : Nat), w13.cell? ⟨g1, 37, none⟩ = some (.slice xA4 xn4 xc4) ∧
  Calls Tryd.prog 65 #[.slice xA4 xn4 xc4] w13 (onRet (fun r_8 w14 => ∃ (x0A3 : Option Addr) (x0n3 x0c3 : Nat), ∃ (x1A1 : Option Addr) (x1n1 x1c1 : Nat), r_8 = .tuple #[.slice x0A3 x0n3 x0c3, .slice x1A1 x1n1 x1c1] ∧
  LoopVC (S := Int) (fun s_ w15 K32762 => weirlaw13_cuts6_L32762 R g1 xA1 xn1 xc1 x0A x0n x0c x1A x1n x1c g2 x1A1 x1n1 x1c1 s_ w15 K32762) 0 w14)
    (fun ch8 w14 => R (.panicked ch8) w14))))
        (fun ch7 w13 => R (.panicked ch7) w13))))
      (fun ch6 w12 => R (.panicked ch6) w12))))
    (fun ch5 w11 => R (.panicked ch5) w11)))
    (fun ch4 w10 => R (.panicked ch4) w10)))
    (fun ch3 w9 => R (.panicked ch3) w9)))
    (fun ch2 w8 => R (.panicked ch2) w8)))
    (fun ch1 w3 => R (.panicked ch1) w3)))
    (fun ch w2 => R (.panicked ch) w2))
def weirlaw13_cuts6_H : Hints := [(32762, [(18, .int .i64)]), (131066, [(21, .int .i64)])]
set_option maxRecDepth 100000 in
theorem weirlaw13_cuts6_of (h : Ip6V) (mtu : Int) (id : Int) (w : World) (R : Ending → World → Prop) (hvc_ : weirlaw13_cuts6_VC h mtu id w R) :
    Calls Tryd.prog 31 #[h.val, .int .i64 mtu, .int .i64 id] w R :=
  calls_of_wpc callOk mixedOk (H := weirlaw13_cuts6_H) (args := [h.val, .int .i64 mtu, .int .i64 id]) (fn := Tryd.f31) (c := bodyOf Tryd.f31) Tryd.func31 rfl (Nat.le_of_ble_eq_true rfl)
    (Eq.mp (by kernel_rfl : weirlaw13_cuts6_VC h mtu id w R = wpc Tryd.prog callF Tryd.f31.ntmps weirlaw13_cuts6_H 1 (bodyOf Tryd.f31) (argEnv 0 [h.val, .int .i64 mtu, .int .i64 id]) [] w (finish Tryd.prog callF Tryd.f31.results.toList R)) hvc_)

set_option maxRecDepth 100000 in
def weirlaw13_SplitFour_VC (h : Ip4V) (mtu : Int) (w : World) (R : Ending → World → Prop) : Prop :=
  NewVC w (.cells h.cells.toArray 28) fun g1 w1 =>
  Calls Tryd.prog 14 #[] w1 (onRet (fun r_ w2 => ∃ x : Bool, r_ = .bool x ∧
  Br x
    (Ip4V.ex fun h1 => CellsAt w2 ⟨g1, 0, none⟩ 0 h1.cells ∧
    Calls Tryd.prog 30 #[h1.val, .int .i64 mtu] w2 (onRet (fun r_1 w3 => ∃ x1 : Bool, r_1 = .bool x1 ∧
    R (.returned (.bool x1)) w3)
      (fun ch1 w3 => R (.panicked ch1) w3)))
    (R (.returned (.bool false)) w2))
    (fun ch w2 => R (.panicked ch) w2))
def weirlaw13_SplitFour_H : Hints := []
set_option maxRecDepth 100000 in
theorem weirlaw13_SplitFour_of (h : Ip4V) (mtu : Int) (w : World) (R : Ending → World → Prop) (hvc_ : weirlaw13_SplitFour_VC h mtu w R) :
    Calls Tryd.prog 6 #[h.val, .int .i64 mtu] w R :=
  calls_of_wpc callOk mixedOk (H := weirlaw13_SplitFour_H) (args := [h.val, .int .i64 mtu]) (fn := Tryd.f6) (c := bodyOf Tryd.f6) Tryd.func6 rfl (Nat.le_of_ble_eq_true rfl)
    (Eq.mp (by kernel_rfl : weirlaw13_SplitFour_VC h mtu w R = wpc Tryd.prog callF Tryd.f6.ntmps weirlaw13_SplitFour_H 1 (bodyOf Tryd.f6) (argEnv 0 [h.val, .int .i64 mtu]) [] w (finish Tryd.prog callF Tryd.f6.results.toList R)) hvc_)

set_option maxRecDepth 100000 in
def weirlaw13_SplitSix_VC (h : Ip6V) (mtu : Int) (id : Int) (w : World) (R : Ending → World → Prop) : Prop :=
  NewVC w (.cells h.cells.toArray 44) fun g1 w1 =>
  Calls Tryd.prog 14 #[] w1 (onRet (fun r_ w2 => ∃ x : Bool, r_ = .bool x ∧
  Br x
    (Ip6V.ex fun h1 => CellsAt w2 ⟨g1, 0, none⟩ 0 h1.cells ∧
    Calls Tryd.prog 31 #[h1.val, .int .i64 mtu, .int .i64 id] w2 (onRet (fun r_1 w3 => ∃ x1 : Bool, r_1 = .bool x1 ∧
    R (.returned (.bool x1)) w3)
      (fun ch1 w3 => R (.panicked ch1) w3)))
    (R (.returned (.bool false)) w2))
    (fun ch w2 => R (.panicked ch) w2))
def weirlaw13_SplitSix_H : Hints := []
set_option maxRecDepth 100000 in
theorem weirlaw13_SplitSix_of (h : Ip6V) (mtu : Int) (id : Int) (w : World) (R : Ending → World → Prop) (hvc_ : weirlaw13_SplitSix_VC h mtu id w R) :
    Calls Tryd.prog 7 #[h.val, .int .i64 mtu, .int .i64 id] w R :=
  calls_of_wpc callOk mixedOk (H := weirlaw13_SplitSix_H) (args := [h.val, .int .i64 mtu, .int .i64 id]) (fn := Tryd.f7) (c := bodyOf Tryd.f7) Tryd.func7 rfl (Nat.le_of_ble_eq_true rfl)
    (Eq.mp (by kernel_rfl : weirlaw13_SplitSix_VC h mtu id w R = wpc Tryd.prog callF Tryd.f7.ntmps weirlaw13_SplitSix_H 1 (bodyOf Tryd.f7) (argEnv 0 [h.val, .int .i64 mtu, .int .i64 id]) [] w (finish Tryd.prog callF Tryd.f7.results.toList R)) hvc_)
end N6
end Go.Proofs.YteppichfkeknbaaDoor
