/- WRITTEN BY a program of this session (vc.py): for each Go function the condition that is enough for its contract, and the theorem that it is. -/
import Derived.Test.YthhgbpmihhljdaaGreatDoorProg
import Derived.Test.YthhgbpmihhljdaaGreatDoorBae
import Derived.Test.YthhgbpmihhljdaaGreatDoorBaj
import Derived.Test.YthhgbpmihhljdaaGreatDoorBag
namespace Go.Proofs.YthhgbpmihhljdaaGreatDoor
open Go.Eng
namespace N6

set_option maxRecDepth 100000 in
def weirref7_copied_VC (bA : Option Addr) (bn : Nat) (bc : Nat) (w : World) (R : Ending → World → Prop) : Prop :=
  AppVC Tryz.prog #[28, 28] 28 (.slice none 0 0) (.slice bA bn bc) w fun lA ln lc w1 =>
  R (.returned (.slice lA ln lc)) w1
def weirref7_copied_H : Hints := []
set_option maxRecDepth 100000 in
theorem weirref7_copied_of (bA : Option Addr) (bn : Nat) (bc : Nat) (w : World) (R : Ending → World → Prop) (hvc_ : weirref7_copied_VC bA bn bc w R) :
    Calls Tryz.prog 40 #[.slice bA bn bc] w R :=
  calls_of_wpc callOk mixedOk (H := weirref7_copied_H) (args := [.slice bA bn bc]) (fn := Tryz.f40) (c := bodyOf Tryz.f40) Tryz.func40 rfl (Nat.le_of_ble_eq_true rfl)
    (Eq.mp (by kernel_rfl : weirref7_copied_VC bA bn bc w R = wpc Tryz.prog callF Tryz.f40.ntmps weirref7_copied_H 1 (bodyOf Tryz.f40) (argEnv 0 [.slice bA bn bc]) [] w (finish Tryz.prog callF Tryz.f40.results.toList R)) hvc_)

set_option maxRecDepth 100000 in
def weirref7_CloneOpts_L58 (R : Ending → World → Prop) (lA : Option Addr) (ln : Nat) (outA : Option Addr) (outn : Nat) (outc : Nat) (i : Int) (w1 : World) (K58 : ((Option Addr × Nat × Nat) × Int → World → Prop)) : Prop :=
  Br (decide (i < (ln : Int)))
    (DrawVC w1 fun S1 w2 =>
  IdxVC lA ln 2 i fun a =>
  ∃ x : Int, (∀ w' : World, S1 w' → w'.cell? a = some (.int .i64 x)) ∧
  IdxVC lA ln 2 i fun a1 =>
  ∃ (xA : Option Addr) (xn xc : Nat), (∀ w' : World, S1 w' → w'.cell? (a1.add 1) = some (.slice xA xn xc)) ∧
  Calls Tryz.prog 40 #[.slice xA xn xc] w2 (onRet (fun r_ w3 => ∃ (xA1 : Option Addr) (xn1 xc1 : Nat), r_ = .slice xA1 xn1 xc1 ∧
  S1 w3 ∧
  NewVC w3 (.cells (⟨x, ⟨xA1, xn1, xc1⟩⟩ : OptV).cells.toArray 127) fun g1 w4 =>
  S1 w4 ∧
  AppVC Tryz.prog #[54, 54] 54 (.slice outA outn outc) (.slice (some ⟨g1, 0, none⟩) 1 1) w4 fun lA1 ln1 lc1 w5 =>
  S1 w5 ∧
  K58 ((lA1, ln1, lc1), IntKind.i64.wrap (i + 1)) w5)
    (fun _ _ => False)))
    (R (.returned (.slice outA outn outc)) w1)
set_option maxRecDepth 100000 in
def weirref7_CloneOpts_VC (lA : Option Addr) (ln : Nat) (_lc : Nat) (w : World) (R : Ending → World → Prop) : Prop :=
  LoopVC (S := (Option Addr × Nat × Nat) × Int) (fun s_ w1 K58 => weirref7_CloneOpts_L58 R lA ln s_.1.1 s_.1.2.1 s_.1.2.2 s_.2 w1 K58) ((none, 0, 0), 0) w
def weirref7_CloneOpts_H : Hints := [(58, [(3, .slice), (4, .int .i64)])]
set_option maxRecDepth 100000 in
theorem weirref7_CloneOpts_of (lA : Option Addr) (ln : Nat) (lc : Nat) (w : World) (R : Ending → World → Prop) (hvc_ : weirref7_CloneOpts_VC lA ln lc w R) :
    Calls Tryz.prog 63 #[.slice lA ln lc] w R :=
  calls_of_wpc callOk mixedOk (H := weirref7_CloneOpts_H) (args := [.slice lA ln lc]) (fn := Tryz.f63) (c := bodyOf Tryz.f63) Tryz.func63 rfl (Nat.le_of_ble_eq_true rfl)
    (Eq.mp (by kernel_rfl : weirref7_CloneOpts_VC lA ln lc w R = wpc Tryz.prog callF Tryz.f63.ntmps weirref7_CloneOpts_H 1 (bodyOf Tryz.f63) (argEnv 0 [.slice lA ln lc]) [] w (finish Tryz.prog callF Tryz.f63.results.toList R)) hvc_)

set_option maxRecDepth 100000 in
def weirref7_CloneExts_L58 (R : Ending → World → Prop) (lA : Option Addr) (ln : Nat) (outA : Option Addr) (outn : Nat) (outc : Nat) (i : Int) (w1 : World) (K58 : ((Option Addr × Nat × Nat) × Int → World → Prop)) : Prop :=
  Br (decide (i < (ln : Int)))
    (DrawVC w1 fun S1 w2 =>
  IdxVC lA ln 3 i fun a =>
  ∃ x : Int, (∀ w' : World, S1 w' → w'.cell? a = some (.int .i64 x)) ∧
  IdxVC lA ln 3 i fun a1 =>
  ∃ (xA : Option Addr) (xn xc : Nat), (∀ w' : World, S1 w' → w'.cell? (a1.add 1) = some (.slice xA xn xc)) ∧
  IdxVC lA ln 3 i fun a2 =>
  ∃ (xA1 : Option Addr) (xn1 xc1 : Nat), (∀ w' : World, S1 w' → w'.cell? (a2.add 2) = some (.slice xA1 xn1 xc1)) ∧
  Calls Tryz.prog 63 #[.slice xA xn xc] w2 (onRet (fun r_ w3 => ∃ (xA2 : Option Addr) (xn2 xc2 : Nat), r_ = .slice xA2 xn2 xc2 ∧
  S1 w3 ∧
  Calls Tryz.prog 40 #[.slice xA1 xn1 xc1] w3 (onRet (fun r_1 w4 => ∃ (xA3 : Option Addr) (xn3 xc3 : Nat), r_1 = .slice xA3 xn3 xc3 ∧
  S1 w4 ∧
  NewVC w4 (.cells (⟨x, ⟨xA2, xn2, xc2⟩, ⟨xA3, xn3, xc3⟩⟩ : ExtV).cells.toArray 56) fun g1 w5 =>
  S1 w5 ∧
  AppVC Tryz.prog #[25, 25] 25 (.slice outA outn outc) (.slice (some ⟨g1, 0, none⟩) 1 1) w5 fun lA1 ln1 lc1 w6 =>
  S1 w6 ∧
  K58 ((lA1, ln1, lc1), IntKind.i64.wrap (i + 1)) w6)
    (fun _ _ => False)))
    (fun _ _ => False)))
    (R (.returned (.slice outA outn outc)) w1)
set_option maxRecDepth 100000 in
def weirref7_CloneExts_VC (lA : Option Addr) (ln : Nat) (_lc : Nat) (w : World) (R : Ending → World → Prop) : Prop :=
  LoopVC (S := (Option Addr × Nat × Nat) × Int) (fun s_ w1 K58 => weirref7_CloneExts_L58 R lA ln s_.1.1 s_.1.2.1 s_.1.2.2 s_.2 w1 K58) ((none, 0, 0), 0) w
def weirref7_CloneExts_H : Hints := [(58, [(3, .slice), (4, .int .i64)])]
set_option maxRecDepth 100000 in
theorem weirref7_CloneExts_of (lA : Option Addr) (ln : Nat) (lc : Nat) (w : World) (R : Ending → World → Prop) (hvc_ : weirref7_CloneExts_VC lA ln lc w R) :
    Calls Tryz.prog 39 #[.slice lA ln lc] w R :=
  calls_of_wpc callOk mixedOk (H := weirref7_CloneExts_H) (args := [.slice lA ln lc]) (fn := Tryz.f39) (c := bodyOf Tryz.f39) Tryz.func39 rfl (Nat.le_of_ble_eq_true rfl)
    (Eq.mp (by kernel_rfl : weirref7_CloneExts_VC lA ln lc w R = wpc Tryz.prog callF Tryz.f39.ntmps weirref7_CloneExts_H 1 (bodyOf Tryz.f39) (argEnv 0 [.slice lA ln lc]) [] w (finish Tryz.prog callF Tryz.f39.results.toList R)) hvc_)

set_option maxRecDepth 100000 in
def weirref7_Clone_VC (h : Ip6V) (w : World) (R : Ending → World → Prop) : Prop :=
  NewVC w (.cells h.cells.toArray 30) fun g1 w1 =>
  NewVC w1 (.cells (Ip6V.z : Ip6V).cells.toArray 30) fun g2 w2 =>
  ∃ (xA : Option Addr) (xn xc : Nat), w2.cell? ⟨g1, 37, none⟩ = some (.slice xA xn xc) ∧
  Calls Tryz.prog 39 #[.slice xA xn xc] w2 (onRet (fun r_ w3 => ∃ (xA1 : Option Addr) (xn1 xc1 : Nat), r_ = .slice xA1 xn1 xc1 ∧
  SetVC w3 ⟨g1, 37, none⟩ (.slice xA1 xn1 xc1) fun w4 =>
  ∃ (xA2 : Option Addr) (xn2 xc2 : Nat), w4.cell? ⟨g1, 43, none⟩ = some (.slice xA2 xn2 xc2) ∧
  Calls Tryz.prog 40 #[.slice xA2 xn2 xc2] w4 (onRet (fun r_1 w5 => ∃ (xA3 : Option Addr) (xn3 xc3 : Nat), r_1 = .slice xA3 xn3 xc3 ∧
  SetVC w5 ⟨g1, 43, none⟩ (.slice xA3 xn3 xc3) fun w6 =>
  Ip6V.ex fun h1 => CellsAt w6 ⟨g1, 0, none⟩ 0 h1.cells ∧
  Stores ⟨g2, 0, none⟩ 0 h1.cells w6 fun w7 =>
  Ip6V.ex fun res => CellsAt w7 ⟨g2, 0, none⟩ 0 res.cells ∧
  R (.returned res.val) w7)
    (fun ch1 w5 => R (.panicked ch1) w5)))
    (fun ch w3 => R (.panicked ch) w3))
def weirref7_Clone_H : Hints := []
set_option maxRecDepth 100000 in
theorem weirref7_Clone_of (h : Ip6V) (w : World) (R : Ending → World → Prop) (hvc_ : weirref7_Clone_VC h w R) :
    Calls Tryz.prog 14 #[h.val] w R :=
  calls_of_wpc callOk mixedOk (H := weirref7_Clone_H) (args := [h.val]) (fn := Tryz.f14) (c := bodyOf Tryz.f14) Tryz.func14 rfl (Nat.le_of_ble_eq_true rfl)
    (Eq.mp (by kernel_rfl : weirref7_Clone_VC h w R = wpc Tryz.prog callF Tryz.f14.ntmps weirref7_Clone_H 1 (bodyOf Tryz.f14) (argEnv 0 [h.val]) [] w (finish Tryz.prog callF Tryz.f14.results.toList R)) hvc_)

set_option maxRecDepth 100000 in
def weirref7_Check_VC (h : Ip6V) (w : World) (R : Ending → World → Prop) : Prop :=
  NewVC w (.cells h.cells.toArray 30) fun g1 w1 =>
  Ip6V.ex fun h1 => CellsAt w1 ⟨g1, 0, none⟩ 0 h1.cells ∧
  Calls Tryz.prog 18 #[h1.val] w1 (onRet (fun r_ w2 => ∃ (x0A : Option Addr) (x0n x0c : Nat), ∃ x1 : Int, r_ = .tuple #[.slice x0A x0n x0c, .int .i64 x1] ∧
  R (.returned (.int .i64 x1)) w2)
    (fun ch w2 => R (.panicked ch) w2))
def weirref7_Check_H : Hints := []
set_option maxRecDepth 100000 in
theorem weirref7_Check_of (h : Ip6V) (w : World) (R : Ending → World → Prop) (hvc_ : weirref7_Check_VC h w R) :
    Calls Tryz.prog 5 #[h.val] w R :=
  calls_of_wpc callOk mixedOk (H := weirref7_Check_H) (args := [h.val]) (fn := Tryz.f5) (c := bodyOf Tryz.f5) Tryz.func5 rfl (Nat.le_of_ble_eq_true rfl)
    (Eq.mp (by kernel_rfl : weirref7_Check_VC h w R = wpc Tryz.prog callF Tryz.f5.ntmps weirref7_Check_H 1 (bodyOf Tryz.f5) (argEnv 0 [h.val]) [] w (finish Tryz.prog callF Tryz.f5.results.toList R)) hvc_)

set_option maxRecDepth 100000 in
def weirref7_Size_VC (h : Ip6V) (w : World) (R : Ending → World → Prop) : Prop :=
  NewVC w (.cells h.cells.toArray 30) fun g1 w1 =>
  Ip6V.ex fun h1 => CellsAt w1 ⟨g1, 0, none⟩ 0 h1.cells ∧
  Calls Tryz.prog 18 #[h1.val] w1 (onRet (fun r_ w2 => ∃ (x0A : Option Addr) (x0n x0c : Nat), ∃ x1 : Int, r_ = .tuple #[.slice x0A x0n x0c, .int .i64 x1] ∧
  R (.returned (.int .i64 (x0n : Int))) w2)
    (fun ch w2 => R (.panicked ch) w2))
def weirref7_Size_H : Hints := []
set_option maxRecDepth 100000 in
theorem weirref7_Size_of (h : Ip6V) (w : World) (R : Ending → World → Prop) (hvc_ : weirref7_Size_VC h w R) :
    Calls Tryz.prog 13 #[h.val] w R :=
  calls_of_wpc callOk mixedOk (H := weirref7_Size_H) (args := [h.val]) (fn := Tryz.f13) (c := bodyOf Tryz.f13) Tryz.func13 rfl (Nat.le_of_ble_eq_true rfl)
    (Eq.mp (by kernel_rfl : weirref7_Size_VC h w R = wpc Tryz.prog callF Tryz.f13.ntmps weirref7_Size_H 1 (bodyOf Tryz.f13) (argEnv 0 [h.val]) [] w (finish Tryz.prog callF Tryz.f13.results.toList R)) hvc_)

set_option maxRecDepth 100000 in
def weirref7_PutChain_VC (lA : Option Addr) (ln : Nat) (lc : Nat) (next : Int) (w : World) (R : Ending → World → Prop) : Prop :=
  Calls Tryz.prog 41 #[.int .i64 next, .int .i64 255] w (onRet (fun r_ w1 => ∃ x : Bool, r_ = .bool x ∧
  Br x
    (R (.returned (.tuple #[.slice none 0 0, .int .i64 1])) w1)
    (Calls Tryz.prog 42 #[.slice lA ln lc, .int .i64 next, .bool false] w1 (onRet (fun r_1 w2 => ∃ (x0A : Option Addr) (x0n x0c : Nat), ∃ x1 : Int, r_1 = .tuple #[.slice x0A x0n x0c, .int .i64 x1] ∧
  Br (decide (x1 ≠ 0))
    (R (.returned (.tuple #[.slice none 0 0, .int .i64 x1])) w2)
    (Calls Tryz.prog 43 #[.int .i64 next] w2 (onRet (fun r_2 w3 => ∃ x2 : Bool, r_2 = .bool x2 ∧
  Br (!x2)
    (R (.returned (.tuple #[.slice none 0 0, .int .i64 72])) w3)
    (R (.returned (.tuple #[.slice x0A x0n x0c, .int .i64 0])) w3))
    (fun ch2 w3 => R (.panicked ch2) w3))))
    (fun ch1 w2 => R (.panicked ch1) w2))))
    (fun ch w1 => R (.panicked ch) w1))
def weirref7_PutChain_H : Hints := []
set_option maxRecDepth 100000 in
theorem weirref7_PutChain_of (lA : Option Addr) (ln : Nat) (lc : Nat) (next : Int) (w : World) (R : Ending → World → Prop) (hvc_ : weirref7_PutChain_VC lA ln lc next w R) :
    Calls Tryz.prog 16 #[.slice lA ln lc, .int .i64 next] w R :=
  calls_of_wpc callOk mixedOk (H := weirref7_PutChain_H) (args := [.slice lA ln lc, .int .i64 next]) (fn := Tryz.f16) (c := bodyOf Tryz.f16) Tryz.func16 rfl (Nat.le_of_ble_eq_true rfl)
    (Eq.mp (by kernel_rfl : weirref7_PutChain_VC lA ln lc next w R = wpc Tryz.prog callF Tryz.f16.ntmps weirref7_PutChain_H 1 (bodyOf Tryz.f16) (argEnv 0 [.slice lA ln lc, .int .i64 next]) [] w (finish Tryz.prog callF Tryz.f16.results.toList R)) hvc_)

set_option maxRecDepth 100000 in
def weirref13_take_L60 (R : Ending → World → Prop) (head : Int) (mtu : Int) (n : Int) (w1 : World) (K60 : (Int → World → Prop)) : Prop :=
  Br (decide (IntKind.i64.wrap (IntKind.i64.wrap (head + n) + 8) ≤ mtu))
    (K60 (IntKind.i64.wrap (n + 8)) w1)
    (R (.returned (.int .i64 n)) w1)
set_option maxRecDepth 100000 in
def weirref13_take_VC (left : Int) (head : Int) (mtu : Int) (w : World) (R : Ending → World → Prop) : Prop :=
  Br (decide (IntKind.i64.wrap (head + left) ≤ mtu))
    (R (.returned (.int .i64 left)) w)
    (LoopVC (S := Int) (fun s_ w1 K60 => weirref13_take_L60 R head mtu s_ w1 K60) 0 w)
def weirref13_take_H : Hints := [(60, [(7, .int .i64)])]
set_option maxRecDepth 100000 in
theorem weirref13_take_of (left : Int) (head : Int) (mtu : Int) (w : World) (R : Ending → World → Prop) (hvc_ : weirref13_take_VC left head mtu w R) :
    Calls Tryz.prog 17 #[.int .i64 left, .int .i64 head, .int .i64 mtu] w R :=
  calls_of_wpc callOk mixedOk (H := weirref13_take_H) (args := [.int .i64 left, .int .i64 head, .int .i64 mtu]) (fn := Tryz.f17) (c := bodyOf Tryz.f17) Tryz.func17 rfl (Nat.le_of_ble_eq_true rfl)
    (Eq.mp (by kernel_rfl : weirref13_take_VC left head mtu w R = wpc Tryz.prog callF Tryz.f17.ntmps weirref13_take_H 1 (bodyOf Tryz.f17) (argEnv 0 [.int .i64 left, .int .i64 head, .int .i64 mtu]) [] w (finish Tryz.prog callF Tryz.f17.results.toList R)) hvc_)

set_option maxRecDepth 100000 in
def weirref13_kept_L122 (R : Ending → World → Prop) (lA : Option Addr) (ln : Nat) (n1 : Int) (i : Int) (w2 : World) (K122 : (Int × Int → World → Prop)) : Prop :=
  Br (decide (i < (ln : Int)))
    (IdxVC lA ln 3 i fun a1 =>
  ∃ x1 : Int, w2.cell? a1 = some (.int .i64 x1) ∧
  Br (decide (x1 = 43))
    (K122 (IntKind.i64.wrap (i + 1), IntKind.i64.wrap (i + 1)) w2)
    (K122 (n1, IntKind.i64.wrap (i + 1)) w2))
    (R (.returned (.int .i64 n1)) w2)
set_option maxRecDepth 100000 in
def weirref13_kept_J7 (R : Ending → World → Prop) (lA : Option Addr) (ln : Nat) (n : Int) (w1 : World) : Prop :=
  LoopVC (S := Int × Int) (fun s_ w2 K122 => weirref13_kept_L122 R lA ln s_.1 s_.2 w2 K122) (n, 0) w1
set_option maxRecDepth 100000 in
def weirref13_kept_VC (lA : Option Addr) (ln : Nat) (_lc : Nat) (w : World) (R : Ending → World → Prop) : Prop :=
  JoinVC (S := Int) (fun J7 =>
      Br (decide ((0 : Int) < (ln : Int)))
        (IdxVC lA ln 3 0 fun a =>
        ∃ x : Int, w.cell? a = some (.int .i64 x) ∧
        Br (decide (x = 0))
        (J7 1 w)
        (J7 0 w))
        (J7 0 w))
    (fun s_ w1 => weirref13_kept_J7 R lA ln s_ w1)
def weirref13_kept_H : Hints := [(7, [(3, .int .i64)]), (122, [(3, .int .i64), (4, .int .i64)])]
set_option maxRecDepth 100000 in
theorem weirref13_kept_of (lA : Option Addr) (ln : Nat) (lc : Nat) (w : World) (R : Ending → World → Prop) (hvc_ : weirref13_kept_VC lA ln lc w R) :
    Calls Tryz.prog 15 #[.slice lA ln lc] w R :=
  calls_of_wpc callOk mixedOk (H := weirref13_kept_H) (args := [.slice lA ln lc]) (fn := Tryz.f15) (c := bodyOf Tryz.f15) Tryz.func15 rfl (Nat.le_of_ble_eq_true rfl)
    (Eq.mp (by kernel_rfl : weirref13_kept_VC lA ln lc w R = wpc Tryz.prog callF Tryz.f15.ntmps weirref13_kept_H 1 (bodyOf Tryz.f15) (argEnv 0 [.slice lA ln lc]) [] w (finish Tryz.prog callF Tryz.f15.results.toList R)) hvc_)

set_option maxRecDepth 100000 in
def weirref13_Split6_L4194300 (R : Ending → World → Prop) (mtu : Int) (lA : Option Addr) (ln : Nat) (lc : Nat) (g3 : Nat) (x6 : Int) (outA : Option Addr) (outn : Nat) (outc : Nat) (at_ : Int) (w18 : World) (K4194300 : ((Option Addr × Nat × Nat) × Int → World → Prop)) : Prop :=
  Br (decide (at_ < (ln : Int)))
    (Calls Tryz.prog 17 #[.int .i64 (IntKind.i64.wrap ((ln : Int) - at_)), .int .i64 x6, .int .i64 mtu] w18 (onRet (fun r_6 w19 => ∃ x7 : Int, r_6 = .int .i64 x7 ∧
  SetVC w19 ⟨g3, 41, none⟩ (.int .i64 at_) fun w20 =>
  SetVC w20 ⟨g3, 39, none⟩ (.bool (decide (IntKind.i64.wrap (at_ + x7) < (ln : Int)))) fun w21 =>
  SliceVC lA ln lc 1 (some at_) (some (IntKind.i64.wrap (at_ + x7))) none fun sA2 sn2 sc2 =>
  SetVC w21 ⟨g3, 43, none⟩ (.slice sA2 sn2 sc2) fun w22 =>
  Ip6V.ex fun h7 => CellsAt w22 ⟨g3, 0, none⟩ 0 h7.cells ∧
  Calls Tryz.prog 14 #[h7.val] w22 (onRet (fun r_7 w23 => Ip6V.ex fun h8 => r_7 = h8.val ∧
  NewVC w23 (.cells h8.cells.toArray 30) fun g4 w24 =>
  AppVC Tryz.prog #[32, 32] 32 (.slice outA outn outc) (.slice (some ⟨g4, 0, none⟩) 1 1) w24 fun lA1 ln1 lc1 w25 =>
  K4194300 ((lA1, ln1, lc1), IntKind.i64.wrap (at_ + x7)) w25)
    (fun ch7 w23 => R (.panicked ch7) w23)))
    (fun ch6 w19 => R (.panicked ch6) w19)))
    (R (.returned (.tuple #[.slice outA outn outc, .int .i64 0])) w18)
set_option maxRecDepth 100000 in
def weirref13_Split6_J16383 (R : Ending → World → Prop) (mtu : Int) (lA : Option Addr) (ln : Nat) (lc : Nat) (g3 : Nat)  (w15 : World) : Prop :=
  SetVC w15 ⟨g3, 43, none⟩ (.slice none 0 0) fun w16 =>
  Ip6V.ex fun h6 => CellsAt w16 ⟨g3, 0, none⟩ 0 h6.cells ∧
  Calls Tryz.prog 13 #[h6.val] w16 (onRet (fun r_5 w17 => ∃ x6 : Int, r_5 = .int .i64 x6 ∧
  Br (decide (mtu < IntKind.i64.wrap (x6 + 8)))
    (R (.returned (.tuple #[.slice none 0 0, .int .i64 133])) w17)
    (LoopVC (S := (Option Addr × Nat × Nat) × Int) (fun s_ w18 K4194300 => weirref13_Split6_L4194300 R mtu lA ln lc g3 x6 s_.1.1 s_.1.2.1 s_.1.2.2 s_.2 w18 K4194300) ((none, 0, 0), 0) w17))
    (fun ch5 w17 => R (.panicked ch5) w17))
set_option maxRecDepth 100000 in
def weirref13_Split6_VC (h : Ip6V) (mtu : Int) (id : Int) (w : World) (R : Ending → World → Prop) : Prop :=
  NewVC w (.cells h.cells.toArray 30) fun g1 w1 =>
  Ip6V.ex fun h1 => CellsAt w1 ⟨g1, 0, none⟩ 0 h1.cells ∧
  Calls Tryz.prog 5 #[h1.val] w1 (onRet (fun r_ w2 => ∃ x : Int, r_ = .int .i64 x ∧
  Br (decide (x ≠ 0))
    (R (.returned (.tuple #[.slice none 0 0, .int .i64 x])) w2)
    (Br (decide (mtu < 1280))
    (R (.returned (.tuple #[.slice none 0 0, .int .i64 132])) w2)
    (Br (decide ((65535 : Int) < mtu))
    (R (.returned (.tuple #[.slice none 0 0, .int .i64 132])) w2)
    (Br (decide (id < 0))
    (R (.returned (.tuple #[.slice none 0 0, .int .i64 1])) w2)
    (Br (decide ((4294967295 : Int) < id))
    (R (.returned (.tuple #[.slice none 0 0, .int .i64 1])) w2)
    (Ip6V.ex fun h2 => CellsAt w2 ⟨g1, 0, none⟩ 0 h2.cells ∧
  Calls Tryz.prog 13 #[h2.val] w2 (onRet (fun r_1 w3 => ∃ x1 : Int, r_1 = .int .i64 x1 ∧
  Br (decide (x1 ≤ mtu))
    (Ip6V.ex fun h3 => CellsAt w3 ⟨g1, 0, none⟩ 0 h3.cells ∧
    Calls Tryz.prog 14 #[h3.val] w3 (onRet (fun r_2 w4 => Ip6V.ex fun h4 => r_2 = h4.val ∧
    NewVC w4 (.cells h4.cells.toArray 30) fun g2 w5 =>
    R (.returned (.tuple #[.slice (some ⟨g2, 0, none⟩) 1 1, .int .i64 0])) w5)
      (fun ch2 w4 => R (.panicked ch2) w4)))
    (∃ x2 : Bool, w3.cell? ⟨g1, 38, none⟩ = some (.bool x2) ∧
  Br x2
    (R (.returned (.tuple #[.slice none 0 0, .int .i64 131])) w3)
    (∃ (xA : Option Addr) (xn xc : Nat), w3.cell? ⟨g1, 37, none⟩ = some (.slice xA xn xc) ∧
  Calls Tryz.prog 15 #[.slice xA xn xc] w3 (onRet (fun r_3 w6 => ∃ x3 : Int, r_3 = .int .i64 x3 ∧
  DrawVC w6 fun S1 w7 =>
  ∃ (xA1 : Option Addr) (xn1 xc1 : Nat), (∀ w' : World, S1 w' → w'.cell? ⟨g1, 37, none⟩ = some (.slice xA1 xn1 xc1)) ∧
  SliceVC xA1 xn1 xc1 3 (some x3) none none fun sA sn sc =>
  ∃ x4 : Int, (∀ w' : World, S1 w' → w'.cell? ⟨g1, 42, none⟩ = some (.int .i64 x4)) ∧
  Calls Tryz.prog 16 #[.slice sA sn sc, .int .i64 x4] w7 (onRet (fun r_4 w8 => ∃ (x0A : Option Addr) (x0n x0c : Nat), ∃ x11 : Int, r_4 = .tuple #[.slice x0A x0n x0c, .int .i64 x11] ∧
  S1 w8 ∧
  ∃ (xA2 : Option Addr) (xn2 xc2 : Nat), w8.cell? ⟨g1, 43, none⟩ = some (.slice xA2 xn2 xc2) ∧
  AppVC Tryz.prog #[28, 28] 28 (.slice x0A x0n x0c) (.slice xA2 xn2 xc2) w8 fun lA ln lc w9 =>
  Ip6V.ex fun h5 => CellsAt w9 ⟨g1, 0, none⟩ 0 h5.cells ∧
  NewVC w9 (.cells (Ip6V.z : Ip6V).cells.toArray 30) fun g3 w10 =>
  Stores ⟨g3, 0, none⟩ 0 h5.cells w10 fun w11 =>
  ∃ (xA3 : Option Addr) (xn3 xc3 : Nat), w11.cell? ⟨g1, 37, none⟩ = some (.slice xA3 xn3 xc3) ∧
  SliceVC xA3 xn3 xc3 3 none (some x3) none fun sA1 sn1 sc1 =>
  SetVC w11 ⟨g3, 37, none⟩ (.slice sA1 sn1 sc1) fun w12 =>
  Stores ⟨g3, 38, none⟩ 0 (⟨true, false, id, 0⟩ : FragV).cells w12 fun w13 =>
  JoinVC (S := Unit) (fun J16383 =>
      ∃ (xA4 : Option Addr) (xn4 xc4 : Nat), w13.cell? ⟨g1, 37, none⟩ = some (.slice xA4 xn4 xc4) ∧
      Br (decide (x3 < (xn4 : Int)))
        (∃ (xA5 : Option Addr) (xn5 xc5 : Nat), w13.cell? ⟨g1, 37, none⟩ = some (.slice xA5 xn5 xc5) ∧
        IdxVC xA5 xn5 3 x3 fun a =>
        ∃ x5 : Int, w13.cell? a = some (.int .i64 x5) ∧
        SetVC w13 ⟨g3, 42, none⟩ (.int .i64 x5) fun w14 =>
        J16383 () w14)
        (J16383 () w13))
    (fun _ w15 => weirref13_Split6_J16383 R mtu lA ln lc g3 w15))
    (fun _ _ => False)))
    (fun ch3 w6 => R (.panicked ch3) w6)))))
    (fun ch1 w3 => R (.panicked ch1) w3))))))))
    (fun ch w2 => R (.panicked ch) w2))
def weirref13_Split6_H : Hints := [(16383, []), (4194300, [(14, .slice), (15, .int .i64)])]
set_option maxRecDepth 100000 in
theorem weirref13_Split6_of (h : Ip6V) (mtu : Int) (id : Int) (w : World) (R : Ending → World → Prop) (hvc_ : weirref13_Split6_VC h mtu id w R) :
    Calls Tryz.prog 4 #[h.val, .int .i64 mtu, .int .i64 id] w R :=
  calls_of_wpc callOk mixedOk (H := weirref13_Split6_H) (args := [h.val, .int .i64 mtu, .int .i64 id]) (fn := Tryz.f4) (c := bodyOf Tryz.f4) Tryz.func4 rfl (Nat.le_of_ble_eq_true rfl)
    (Eq.mp (by kernel_rfl : weirref13_Split6_VC h mtu id w R = wpc Tryz.prog callF Tryz.f4.ntmps weirref13_Split6_H 1 (bodyOf Tryz.f4) (argEnv 0 [h.val, .int .i64 mtu, .int .i64 id]) [] w (finish Tryz.prog callF Tryz.f4.results.toList R)) hvc_)
end N6
end Go.Proofs.YthhgbpmihhljdaaGreatDoor
/- WRITTEN BY a program of this session (vc.py): for each Go function the condition that is enough for its contract, and the theorem that it is. -/
namespace Go.Proofs.YthhgbpmihhljdaaGreatDoor
open Go.Eng
namespace N6

set_option maxRecDepth 100000 in
def bytes_Equal_VC (aA : Option Addr) (an : Nat) (ac : Nat) (bA : Option Addr) (bn : Nat) (bc : Nat) (w : World) (R : Ending → World → Prop) : Prop :=
  StrVC Tryz.prog (.slice aA an ac) w fun str =>
  StrVC Tryz.prog (.slice bA bn bc) w fun str1 =>
  R (.returned (.bool (str.toList == str1.toList))) w
def bytes_Equal_H : Hints := []
set_option maxRecDepth 100000 in
theorem bytes_Equal_of (aA : Option Addr) (an : Nat) (ac : Nat) (bA : Option Addr) (bn : Nat) (bc : Nat) (w : World) (R : Ending → World → Prop) (hvc_ : bytes_Equal_VC aA an ac bA bn bc w R) :
    Calls Tryz.prog 78 #[.slice aA an ac, .slice bA bn bc] w R :=
  calls_of_wpc callOk mixedOk (H := bytes_Equal_H) (args := [.slice aA an ac, .slice bA bn bc]) (fn := Tryz.f78) (c := bodyOf Tryz.f78) Tryz.func78 rfl (Nat.le_of_ble_eq_true rfl)
    (Eq.mp (by kernel_rfl : bytes_Equal_VC aA an ac bA bn bc w R = wpc Tryz.prog callF Tryz.f78.ntmps bytes_Equal_H 1 (bodyOf Tryz.f78) (argEnv 0 [.slice aA an ac, .slice bA bn bc]) [] w (finish Tryz.prog callF Tryz.f78.results.toList R)) hvc_)
end N6
end Go.Proofs.YthhgbpmihhljdaaGreatDoor
