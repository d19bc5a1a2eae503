/- WRITTEN BY a program of this session (vc.py): for each Go function the condition that is enough for its contract, and the theorem that it is. -/
import Derived.Test.YtkiogaglmjeplaaGreatDoorProg
import Derived.Test.YtkiogaglmjeplaaGreatDoorBq
import Derived.Test.YtkiogaglmjeplaaGreatDoorBw
import Derived.Test.YtkiogaglmjeplaaGreatDoorBe
import Derived.Test.YtkiogaglmjeplaaGreatDoorBl
import Derived.Test.YtkiogaglmjeplaaGreatDoorBn
namespace Go.Proofs.YtkiogaglmjeplaaGreatDoor
open Go.Eng
namespace N6

set_option maxRecDepth 100000 in
def weirlaw7_laidOpts_L250 (R : Ending → World → Prop) (ln : Nat) (wA : Option Addr) (wn : Nat) (wc : Nat) (mA1 : Option Addr) (mn1 : Nat) (mc1 : Nat) (i1 : Int) (w8 : World) (K250 : ((Option Addr × Nat × Nat) × Int → World → Prop)) : Prop :=
  Br (decide (i1 < 20))
    (NewVC w8 (.cells #[.int .i64 (-201), .slice none 0 0] 102) fun g3 w9 =>
  AppVC Tryz.prog #[79, 79] 79 (.slice mA1 mn1 mc1) (.slice (some ⟨g3, 0, none⟩) 1 1) w9 fun lA3 ln3 lc3 w10 =>
  K250 ((lA3, ln3, lc3), IntKind.i64.wrap (i1 + 1)) w10)
    (SliceVC mA1 mn1 mc1 2 none (some (ln : Int)) none fun sA1 sn1 sc1 =>
  R (.returned (.tuple #[.slice sA1 sn1 sc1, .slice wA wn wc])) w8)
set_option maxRecDepth 100000 in
def weirlaw7_laidOpts_L122 (R : Ending → World → Prop) (lA : Option Addr) (ln : Nat) (mA : Option Addr) (mn : Nat) (mc : Nat) (wA : Option Addr) (wn : Nat) (wc : Nat) (i : Int) (w1 : World) (K122 : ((Option Addr × Nat × Nat) × (Option Addr × Nat × Nat) × Int → World → Prop)) : Prop :=
  Br (decide (i < (ln : Int)))
    (IdxVC lA ln 2 i fun a =>
  ∃ (xA : Option Addr) (xn xc : Nat), w1.cell? (a.add 1) = some (.slice xA xn xc) ∧
  Calls Tryz.prog 24 #[.slice xA xn xc] w1 (onRet (fun r_ w2 => ∃ (xA1 : Option Addr) (xn1 xc1 : Nat), r_ = .slice xA1 xn1 xc1 ∧
  NewVC w2 (.cells #[.slice xA1 xn1 xc1] 32) fun g1 w3 =>
  AppVC Tryz.prog #[62, 62] 62 (.slice wA wn wc) (.slice (some ⟨g1, 0, none⟩) 1 1) w3 fun lA1 ln1 lc1 w4 =>
  DrawVC w4 fun S1 w5 =>
  IdxVC lA ln 2 i fun a1 =>
  ∃ x : Int, (∀ w' : World, S1 w' → w'.cell? a1 = some (.int .i64 x)) ∧
  IdxVC lA ln 2 i fun a2 =>
  ∃ (xA2 : Option Addr) (xn2 xc2 : Nat), (∀ w' : World, S1 w' → w'.cell? (a2.add 1) = some (.slice xA2 xn2 xc2)) ∧
  SliceVC xA1 xn1 xc1 1 none (some (xn2 : Int)) none fun sA sn sc =>
  NewVC w5 (.cells #[.int .i64 x, .slice sA sn sc] 102) fun g2 w6 =>
  S1 w6 ∧
  AppVC Tryz.prog #[79, 79] 79 (.slice mA mn mc) (.slice (some ⟨g2, 0, none⟩) 1 1) w6 fun lA2 ln2 lc2 w7 =>
  S1 w7 ∧
  K122 ((lA2, ln2, lc2), (lA1, ln1, lc1), IntKind.i64.wrap (i + 1)) w7)
    (fun ch w2 => R (.panicked ch) w2)))
    (LoopVC (S := (Option Addr × Nat × Nat) × Int) (fun s_ w8 K250 => weirlaw7_laidOpts_L250 R ln wA wn wc s_.1.1 s_.1.2.1 s_.1.2.2 s_.2 w8 K250) ((mA, mn, mc), 0) w1)
set_option maxRecDepth 100000 in
def weirlaw7_laidOpts_VC (lA : Option Addr) (ln : Nat) (_lc : Nat) (w : World) (R : Ending → World → Prop) : Prop :=
  LoopVC (S := (Option Addr × Nat × Nat) × (Option Addr × Nat × Nat) × Int) (fun s_ w1 K122 => weirlaw7_laidOpts_L122 R lA ln s_.1.1 s_.1.2.1 s_.1.2.2 s_.2.1.1 s_.2.1.2.1 s_.2.1.2.2 s_.2.2 w1 K122) ((none, 0, 0), (none, 0, 0), 0) w
def weirlaw7_laidOpts_H : Hints := [(122, [(4, .slice), (5, .slice), (6, .int .i64)]), (250, [(4, .slice), (8, .int .i64)])]
set_option maxRecDepth 100000 in
theorem weirlaw7_laidOpts_of (lA : Option Addr) (ln : Nat) (lc : Nat) (w : World) (R : Ending → World → Prop) (hvc_ : weirlaw7_laidOpts_VC lA ln lc w R) :
    Calls Tryz.prog 49 #[.slice lA ln lc] w R :=
  calls_of_wpc callOk mixedOk (H := weirlaw7_laidOpts_H) (args := [.slice lA ln lc]) (fn := Tryz.f49) (c := bodyOf Tryz.f49) Tryz.func49 rfl (Nat.le_of_ble_eq_true rfl)
    (Eq.mp (by kernel_rfl : weirlaw7_laidOpts_VC lA ln lc w R = wpc Tryz.prog callF Tryz.f49.ntmps weirlaw7_laidOpts_H 1 (bodyOf Tryz.f49) (argEnv 0 [.slice lA ln lc]) [] w (finish Tryz.prog callF Tryz.f49.results.toList R)) hvc_)

set_option maxRecDepth 100000 in
def weirlaw7_laidExts_L250 (R : Ending → World → Prop) (ln : Nat) (wA : Option Addr) (wn : Nat) (wc : Nat) (mA1 : Option Addr) (mn1 : Nat) (mc1 : Nat) (i1 : Int) (w10 : World) (K250 : ((Option Addr × Nat × Nat) × Int → World → Prop)) : Prop :=
  Br (decide (i1 < 20))
    (NewVC w10 (.cells #[.int .i64 (-202), .slice none 0 0, .slice none 0 0] 81) fun g3 w11 =>
  AppVC Tryz.prog #[29, 29] 29 (.slice mA1 mn1 mc1) (.slice (some ⟨g3, 0, none⟩) 1 1) w11 fun lA4 ln4 lc4 w12 =>
  K250 ((lA4, ln4, lc4), IntKind.i64.wrap (i1 + 1)) w12)
    (SliceVC mA1 mn1 mc1 3 none (some (ln : Int)) none fun sA1 sn1 sc1 =>
  R (.returned (.tuple #[.slice sA1 sn1 sc1, .slice wA wn wc])) w10)
set_option maxRecDepth 100000 in
def weirlaw7_laidExts_L122 (R : Ending → World → Prop) (lA : Option Addr) (ln : Nat) (mA : Option Addr) (mn : Nat) (mc : Nat) (wA : Option Addr) (wn : Nat) (wc : Nat) (i : Int) (w1 : World) (K122 : ((Option Addr × Nat × Nat) × (Option Addr × Nat × Nat) × Int → World → Prop)) : Prop :=
  Br (decide (i < (ln : Int)))
    (IdxVC lA ln 3 i fun a =>
  ∃ (xA : Option Addr) (xn xc : Nat), w1.cell? (a.add 1) = some (.slice xA xn xc) ∧
  Calls Tryz.prog 49 #[.slice xA xn xc] w1 (onRet (fun r_ w2 => ∃ (x0A : Option Addr) (x0n x0c : Nat), ∃ (x1A : Option Addr) (x1n x1c : Nat), r_ = .tuple #[.slice x0A x0n x0c, .slice x1A x1n x1c] ∧
  IdxVC lA ln 3 i fun a1 =>
  ∃ (xA1 : Option Addr) (xn1 xc1 : Nat), w2.cell? (a1.add 2) = some (.slice xA1 xn1 xc1) ∧
  Calls Tryz.prog 24 #[.slice xA1 xn1 xc1] w2 (onRet (fun r_1 w3 => ∃ (xA2 : Option Addr) (xn2 xc2 : Nat), r_1 = .slice xA2 xn2 xc2 ∧
  AppVC Tryz.prog #[62, 62] 62 (.slice wA wn wc) (.slice x1A x1n x1c) w3 fun lA1 ln1 lc1 w4 =>
  NewVC w4 (.cells #[.slice xA2 xn2 xc2] 32) fun g1 w5 =>
  AppVC Tryz.prog #[62, 62] 62 (.slice lA1 ln1 lc1) (.slice (some ⟨g1, 0, none⟩) 1 1) w5 fun lA2 ln2 lc2 w6 =>
  DrawVC w6 fun S1 w7 =>
  IdxVC lA ln 3 i fun a2 =>
  ∃ x : Int, (∀ w' : World, S1 w' → w'.cell? a2 = some (.int .i64 x)) ∧
  IdxVC lA ln 3 i fun a3 =>
  ∃ (xA3 : Option Addr) (xn3 xc3 : Nat), (∀ w' : World, S1 w' → w'.cell? (a3.add 2) = some (.slice xA3 xn3 xc3)) ∧
  SliceVC xA2 xn2 xc2 1 none (some (xn3 : Int)) none fun sA sn sc =>
  NewVC w7 (.cells #[.int .i64 x, .slice x0A x0n x0c, .slice sA sn sc] 81) fun g2 w8 =>
  S1 w8 ∧
  AppVC Tryz.prog #[29, 29] 29 (.slice mA mn mc) (.slice (some ⟨g2, 0, none⟩) 1 1) w8 fun lA3 ln3 lc3 w9 =>
  S1 w9 ∧
  K122 ((lA3, ln3, lc3), (lA2, ln2, lc2), IntKind.i64.wrap (i + 1)) w9)
    (fun ch1 w3 => R (.panicked ch1) w3)))
    (fun ch w2 => R (.panicked ch) w2)))
    (LoopVC (S := (Option Addr × Nat × Nat) × Int) (fun s_ w10 K250 => weirlaw7_laidExts_L250 R ln wA wn wc s_.1.1 s_.1.2.1 s_.1.2.2 s_.2 w10 K250) ((mA, mn, mc), 0) w1)
set_option maxRecDepth 100000 in
def weirlaw7_laidExts_VC (lA : Option Addr) (ln : Nat) (_lc : Nat) (w : World) (R : Ending → World → Prop) : Prop :=
  LoopVC (S := (Option Addr × Nat × Nat) × (Option Addr × Nat × Nat) × Int) (fun s_ w1 K122 => weirlaw7_laidExts_L122 R lA ln s_.1.1 s_.1.2.1 s_.1.2.2 s_.2.1.1 s_.2.1.2.1 s_.2.1.2.2 s_.2.2 w1 K122) ((none, 0, 0), (none, 0, 0), 0) w
def weirlaw7_laidExts_H : Hints := [(122, [(4, .slice), (5, .slice), (6, .int .i64)]), (250, [(4, .slice), (10, .int .i64)])]
set_option maxRecDepth 100000 in
theorem weirlaw7_laidExts_of (lA : Option Addr) (ln : Nat) (lc : Nat) (w : World) (R : Ending → World → Prop) (hvc_ : weirlaw7_laidExts_VC lA ln lc w R) :
    Calls Tryz.prog 25 #[.slice lA ln lc] w R :=
  calls_of_wpc callOk mixedOk (H := weirlaw7_laidExts_H) (args := [.slice lA ln lc]) (fn := Tryz.f25) (c := bodyOf Tryz.f25) Tryz.func25 rfl (Nat.le_of_ble_eq_true rfl)
    (Eq.mp (by kernel_rfl : weirlaw7_laidExts_VC lA ln lc w R = wpc Tryz.prog callF Tryz.f25.ntmps weirlaw7_laidExts_H 1 (bodyOf Tryz.f25) (argEnv 0 [.slice lA ln lc]) [] w (finish Tryz.prog callF Tryz.f25.results.toList R)) hvc_)

set_option maxRecDepth 100000 in
def weirlaw7_full_L122 (R : Ending → World → Prop) (wA : Option Addr) (wn : Nat) (x1A : Option Addr) (x1n : Nat) (i : Int) (w2 : World) (K122 : (Int → World → Prop)) : Prop :=
  Br (decide (i < (x1n : Int)))
    (DrawVC w2 fun S1 w3 =>
  IdxVC x1A x1n 1 i fun a =>
  ∃ (xA : Option Addr) (xn xc : Nat), (∀ w' : World, S1 w' → w'.cell? a = some (.slice xA xn xc)) ∧
  IdxVC wA wn 1 i fun a1 =>
  ∃ (xA1 : Option Addr) (xn1 xc1 : Nat), (∀ w' : World, S1 w' → w'.cell? a1 = some (.slice xA1 xn1 xc1)) ∧
  Calls Tryz.prog 14 #[.slice xA xn xc, .slice xA1 xn1 xc1] w3 (onRet (fun r_1 w4 => ∃ x : Bool, r_1 = .bool x ∧
  S1 w4 ∧
  Br (!x)
    (R (.returned (.bool false)) w4)
    (K122 (IntKind.i64.wrap (i + 1)) w4))
    (fun _ _ => False)))
    (R (.returned (.bool true)) w2)
set_option maxRecDepth 100000 in
def weirlaw7_full_VC (wA : Option Addr) (wn : Nat) (_wc : Nat) (lA : Option Addr) (ln : Nat) (lc : Nat) (w : World) (R : Ending → World → Prop) : Prop :=
  Calls Tryz.prog 25 #[.slice lA ln lc] w (onRet (fun r_ w1 => ∃ (x0A : Option Addr) (x0n x0c : Nat), ∃ (x1A : Option Addr) (x1n x1c : Nat), r_ = .tuple #[.slice x0A x0n x0c, .slice x1A x1n x1c] ∧
  Br (decide ((x1n : Int) ≠ (wn : Int)))
    (R (.returned (.bool false)) w1)
    (LoopVC (S := Int) (fun s_ w2 K122 => weirlaw7_full_L122 R wA wn x1A x1n s_ w2 K122) 0 w1))
    (fun ch w1 => R (.panicked ch) w1))
def weirlaw7_full_H : Hints := [(122, [(7, .int .i64)])]
set_option maxRecDepth 100000 in
theorem weirlaw7_full_of (wA : Option Addr) (wn : Nat) (wc : Nat) (lA : Option Addr) (ln : Nat) (lc : Nat) (w : World) (R : Ending → World → Prop) (hvc_ : weirlaw7_full_VC wA wn wc lA ln lc w R) :
    Calls Tryz.prog 29 #[.slice wA wn wc, .slice lA ln lc] w R :=
  calls_of_wpc callOk mixedOk (H := weirlaw7_full_H) (args := [.slice wA wn wc, .slice lA ln lc]) (fn := Tryz.f29) (c := bodyOf Tryz.f29) Tryz.func29 rfl (Nat.le_of_ble_eq_true rfl)
    (Eq.mp (by kernel_rfl : weirlaw7_full_VC wA wn wc lA ln lc w R = wpc Tryz.prog callF Tryz.f29.ntmps weirlaw7_full_H 1 (bodyOf Tryz.f29) (argEnv 0 [.slice wA wn wc, .slice lA ln lc]) [] w (finish Tryz.prog callF Tryz.f29.results.toList R)) hvc_)

set_option maxRecDepth 100000 in
def weirlaw7_whole_L15654 (R : Ending → World → Prop) (i1 : Int) (K122 : (Int → World → Prop)) (sA1 : Option Addr) (sn1 : Nat) (k : Int) (w4 : World) (K15654 : (Int → World → Prop)) : Prop :=
  Br (decide (k < (sn1 : Int)))
    (IdxVC sA1 sn1 2 k fun a4 =>
  ∃ x1 : Int, w4.cell? a4 = some (.int .i64 x1) ∧
  Br (decide (x1 ≠ (-201)))
    (R (.returned (.bool false)) w4)
    (K15654 (IntKind.i64.wrap (k + 1)) w4))
    (K122 (IntKind.i64.wrap (i1 + 1)) w4)
set_option maxRecDepth 100000 in
def weirlaw7_whole_L122 (R : Ending → World → Prop) (lA : Option Addr) (ln : Nat) (i1 : Int) (w2 : World) (K122 : (Int → World → Prop)) : Prop :=
  Br (decide (i1 < (ln : Int)))
    (DrawVC w2 fun S1 w3 =>
  IdxVC lA ln 3 i1 fun a1 =>
  ∃ (xA : Option Addr) (xn xc : Nat), (∀ w' : World, S1 w' → w'.cell? (a1.add 1) = some (.slice xA xn xc)) ∧
  IdxVC lA ln 3 i1 fun a2 =>
  ∃ (xA1 : Option Addr) (xn1 xc1 : Nat), (∀ w' : World, S1 w' → w'.cell? (a2.add 1) = some (.slice xA1 xn1 xc1)) ∧
  SliceVC xA xn xc 2 none (some (IntKind.i64.wrap ((xn1 : Int) + 20))) none fun sA1 sn1 _sc1 =>
  IdxVC lA ln 3 i1 fun a3 =>
  ∃ (xA2 : Option Addr) (xn2 xc2 : Nat), w3.cell? (a3.add 1) = some (.slice xA2 xn2 xc2) ∧
  LoopVC (S := Int) (fun s_ w4 K15654 => weirlaw7_whole_L15654 R i1 K122 sA1 sn1 s_ w4 K15654) (xn2 : Int) w3)
    (R (.returned (.bool true)) w2)
set_option maxRecDepth 100000 in
def weirlaw7_whole_L58 (R : Ending → World → Prop) (lA : Option Addr) (ln : Nat) (sA : Option Addr) (sn : Nat) (i : Int) (w1 : World) (K58 : (Int → World → Prop)) : Prop :=
  Br (decide (i < (sn : Int)))
    (IdxVC sA sn 3 i fun a =>
  ∃ x : Int, w1.cell? a = some (.int .i64 x) ∧
  Br (decide (x ≠ (-202)))
    (R (.returned (.bool false)) w1)
    (K58 (IntKind.i64.wrap (i + 1)) w1))
    (LoopVC (S := Int) (fun s_ w2 K122 => weirlaw7_whole_L122 R lA ln s_ w2 K122) 0 w1)
set_option maxRecDepth 100000 in
def weirlaw7_whole_VC (lA : Option Addr) (ln : Nat) (lc : Nat) (w : World) (R : Ending → World → Prop) : Prop :=
  SliceVC lA ln lc 3 none (some (IntKind.i64.wrap ((ln : Int) + 20))) none fun sA sn _sc =>
  LoopVC (S := Int) (fun s_ w1 K58 => weirlaw7_whole_L58 R lA ln sA sn s_ w1 K58) (ln : Int) w
def weirlaw7_whole_H : Hints := [(58, [(4, .int .i64)]), (122, [(5, .int .i64)]), (15654, [(7, .int .i64)])]
set_option maxRecDepth 100000 in
theorem weirlaw7_whole_of (lA : Option Addr) (ln : Nat) (lc : Nat) (w : World) (R : Ending → World → Prop) (hvc_ : weirlaw7_whole_VC lA ln lc w R) :
    Calls Tryz.prog 28 #[.slice lA ln lc] w R :=
  calls_of_wpc callOk mixedOk (H := weirlaw7_whole_H) (args := [.slice lA ln lc]) (fn := Tryz.f28) (c := bodyOf Tryz.f28) Tryz.func28 rfl (Nat.le_of_ble_eq_true rfl)
    (Eq.mp (by kernel_rfl : weirlaw7_whole_VC lA ln lc w R = wpc Tryz.prog callF Tryz.f28.ntmps weirlaw7_whole_H 1 (bodyOf Tryz.f28) (argEnv 0 [.slice lA ln lc]) [] w (finish Tryz.prog callF Tryz.f28.results.toList R)) hvc_)

set_option maxRecDepth 100000 in
def weirlaw7_hops_VC (bA : Option Addr) (bn : Nat) (bc : Nat) (w : World) (R : Ending → World → Prop) : Prop :=
  Calls Tryz.prog 24 #[.slice bA bn bc] w (onRet (fun r_ w1 => ∃ (xA : Option Addr) (xn xc : Nat), r_ = .slice xA xn xc ∧
  SliceVC xA xn xc 1 none (some (bn : Int)) none fun sA sn sc =>
  Calls Tryz.prog 47 #[.slice sA sn sc] w1 (onRet (fun r_1 w2 => ∃ x : Int, r_1 = .int .i64 x ∧
  Calls Tryz.prog 48 #[.slice bA bn bc] w2 (onRet (fun r_2 w3 => ∃ (x0A : Option Addr) (x0n x0c : Nat), ∃ x1 : Int, r_2 = .tuple #[.slice x0A x0n x0c, .int .i64 x1] ∧
  Calls Tryz.prog 12 #[.int .i64 x] w3 (onRet (fun r_3 w4 => ∃ x2 : Int, r_3 = .int .i64 x2 ∧
  Br (decide (x2 = x1))
    (Calls Tryz.prog 24 #[.slice x0A x0n x0c] w4 (onRet (fun r_4 w5 => ∃ (xA1 : Option Addr) (xn1 xc1 : Nat), r_4 = .slice xA1 xn1 xc1 ∧
    Calls Tryz.prog 14 #[.slice xA xn xc, .slice xA1 xn1 xc1] w5 (onRet (fun r_5 w6 => ∃ x3 : Bool, r_5 = .bool x3 ∧
    R (.returned (.bool x3)) w6)
      (fun ch5 w6 => R (.panicked ch5) w6)))
      (fun ch4 w5 => R (.panicked ch4) w5)))
    (R (.returned (.bool false)) w4))
    (fun ch3 w4 => R (.panicked ch3) w4)))
    (fun ch2 w3 => R (.panicked ch2) w3)))
    (fun ch1 w2 => R (.panicked ch1) w2)))
    (fun ch w1 => R (.panicked ch) w1))
def weirlaw7_hops_H : Hints := []
set_option maxRecDepth 100000 in
theorem weirlaw7_hops_of (bA : Option Addr) (bn : Nat) (bc : Nat) (w : World) (R : Ending → World → Prop) (hvc_ : weirlaw7_hops_VC bA bn bc w R) :
    Calls Tryz.prog 23 #[.slice bA bn bc] w R :=
  calls_of_wpc callOk mixedOk (H := weirlaw7_hops_H) (args := [.slice bA bn bc]) (fn := Tryz.f23) (c := bodyOf Tryz.f23) Tryz.func23 rfl (Nat.le_of_ble_eq_true rfl)
    (Eq.mp (by kernel_rfl : weirlaw7_hops_VC bA bn bc w R = wpc Tryz.prog callF Tryz.f23.ntmps weirlaw7_hops_H 1 (bodyOf Tryz.f23) (argEnv 0 [.slice bA bn bc]) [] w (finish Tryz.prog callF Tryz.f23.results.toList R)) hvc_)

set_option maxRecDepth 100000 in
def weirlaw7_plays_J65515 (R : Ending → World → Prop) (g2 : Nat) (J2047 : (Bool → World → Prop)) (t55_ : Bool) (w13 : World) : Prop :=
  Br t55_
    (Op7V.ex fun h2 => CellsAt w13 ⟨g2, 0, none⟩ 0 h2.cells ∧
    Calls Tryz.prog 27 #[h2.val] w13 (onRet (fun r_5 w14 => ∃ x4 : Bool, r_5 = .bool x4 ∧
    J2047 x4 w14)
      (fun ch5 w14 => R (.panicked ch5) w14)))
    (J2047 true w13)
set_option maxRecDepth 100000 in
def weirlaw7_plays_J16378 (R : Ending → World → Prop) (g2 : Nat) (J2047 : (Bool → World → Prop)) (x2 : Int) (t49_ : Bool) (w11 : World) : Prop :=
  Br t49_
    (Op7V.ex fun h1 => CellsAt w11 ⟨g2, 0, none⟩ 0 h1.cells ∧
    Calls Tryz.prog 26 #[h1.val] w11 (onRet (fun r_4 w12 => ∃ x3 : Bool, r_4 = .bool x3 ∧
    J2047 x3 w12)
      (fun ch4 w12 => R (.panicked ch4) w12)))
    (JoinVC (S := Bool) (fun J65515 =>
        Br (decide (x2 = 4))
          (J65515 (decide (x2 = 4)) w11)
          (Br (decide (x2 = 5))
            (J65515 (decide (x2 = 5)) w11)
            (Br (decide (x2 = 6))
              (J65515 (decide (x2 = 6)) w11)
              (J65515 (decide (x2 = 8)) w11))))
      (fun s_ w13 => weirlaw7_plays_J65515 R g2 J2047 s_ w13))
set_option maxRecDepth 100000 in
def weirlaw7_plays_J2047 (R : Ending → World → Prop) (g1 : Nat) (xA2 : Option Addr) (xn2 : Nat) (xc2 : Nat) (xA4 : Option Addr) (xn4 : Nat) (xc4 : Nat) (x0A : Option Addr) (x0n : Nat) (x0c : Nat) (x1A : Option Addr) (x1n : Nat) (x1c : Nat) (g2 : Nat) (ok : Bool) (w15 : World) : Prop :=
  Br (!ok)
    (R (.returned (.bool false)) w15)
    (Ip6V.ex fun h3 => CellsAt w15 ⟨g2, 2, none⟩ 0 h3.cells ∧
    Ip6V.ex fun h4 => CellsAt w15 ⟨g1, 2, none⟩ 0 h4.cells ∧
    Calls Tryz.prog 13 #[h3.val, h4.val] w15 (onRet (fun r_6 w16 => ∃ x5 : Bool, r_6 = .bool x5 ∧
    Br (!x5)
      (R (.returned (.bool false)) w16)
      (Calls Tryz.prog 28 #[.slice x0A x0n x0c] w16 (onRet (fun r_7 w17 => ∃ x6 : Bool, r_7 = .bool x6 ∧
      Br (!x6)
        (R (.returned (.bool false)) w17)
        (∃ (xA8 : Option Addr) (xn8 xc8 : Nat), w17.cell? ⟨g1, 39, none⟩ = some (.slice xA8 xn8 xc8) ∧
        Calls Tryz.prog 29 #[.slice x1A x1n x1c, .slice xA8 xn8 xc8] w17 (onRet (fun r_8 w18 => ∃ x7 : Bool, r_8 = .bool x7 ∧
        Br (!x7)
    (R (.returned (.bool false)) w18)
    (∃ (xA9 : Option Addr) (xn9 xc9 : Nat), w18.cell? ⟨g1, 1, none⟩ = some (.slice xA9 xn9 xc9) ∧
  Calls Tryz.prog 24 #[.slice xA9 xn9 xc9] w18 (onRet (fun r_9 w19 => ∃ (xA10 : Option Addr) (xn10 xc10 : Nat), r_9 = .slice xA10 xn10 xc10 ∧
  Calls Tryz.prog 14 #[.slice xA2 xn2 xc2, .slice xA10 xn10 xc10] w19 (onRet (fun r_10 w20 => ∃ x8 : Bool, r_10 = .bool x8 ∧
  Br x8
    (∃ (xA11 : Option Addr) (xn11 xc11 : Nat), w20.cell? ⟨g1, 45, none⟩ = some (.slice xA11 xn11 xc11) ∧
    Calls Tryz.prog 24 #[.slice xA11 xn11 xc11] w20 (onRet (fun r_11 w21 => ∃ (xA12 : Option Addr) (xn12 xc12 : Nat), r_11 = .slice xA12 xn12 xc12 ∧
    Calls Tryz.prog 14 #[.slice xA4 xn4 xc4, .slice xA12 xn12 xc12] w21 (onRet (fun r_12 w22 => ∃ x9 : Bool, r_12 = .bool x9 ∧
    R (.returned (.bool x9)) w22)
      (fun ch12 w22 => R (.panicked ch12) w22)))
      (fun ch11 w21 => R (.panicked ch11) w21)))
    (R (.returned (.bool false)) w20))
    (fun ch10 w20 => R (.panicked ch10) w20)))
    (fun ch9 w19 => R (.panicked ch9) w19))))
          (fun ch8 w18 => R (.panicked ch8) w18))))
        (fun ch7 w17 => R (.panicked ch7) w17))))
      (fun ch6 w16 => R (.panicked ch6) w16)))
set_option maxRecDepth 100000 in
def weirlaw7_plays_VC (o : Op7V) (w : World) (R : Ending → World → Prop) : Prop :=
  NewVC w (.cells o.cells.toArray 46) fun g1 w1 =>
  ∃ x : Int, w1.cell? ⟨g1, 0, none⟩ = some (.int .i64 x) ∧
  Br (decide (x = 3))
    (∃ (xA : Option Addr) (xn xc : Nat), w1.cell? ⟨g1, 1, none⟩ = some (.slice xA xn xc) ∧
    Calls Tryz.prog 23 #[.slice xA xn xc] w1 (onRet (fun r_ w2 => ∃ x1 : Bool, r_ = .bool x1 ∧
    R (.returned (.bool x1)) w2)
      (fun ch w2 => R (.panicked ch) w2)))
    (∃ (xA1 : Option Addr) (xn1 xc1 : Nat), w1.cell? ⟨g1, 1, none⟩ = some (.slice xA1 xn1 xc1) ∧
  Calls Tryz.prog 24 #[.slice xA1 xn1 xc1] w1 (onRet (fun r_1 w3 => ∃ (xA2 : Option Addr) (xn2 xc2 : Nat), r_1 = .slice xA2 xn2 xc2 ∧
  ∃ (xA3 : Option Addr) (xn3 xc3 : Nat), w3.cell? ⟨g1, 45, none⟩ = some (.slice xA3 xn3 xc3) ∧
  Calls Tryz.prog 24 #[.slice xA3 xn3 xc3] w3 (onRet (fun r_2 w4 => ∃ (xA4 : Option Addr) (xn4 xc4 : Nat), r_2 = .slice xA4 xn4 xc4 ∧
  ∃ (xA5 : Option Addr) (xn5 xc5 : Nat), w4.cell? ⟨g1, 39, none⟩ = some (.slice xA5 xn5 xc5) ∧
  Calls Tryz.prog 25 #[.slice xA5 xn5 xc5] w4 (onRet (fun r_3 w5 => ∃ (x0A : Option Addr) (x0n x0c : Nat), ∃ (x1A : Option Addr) (x1n x1c : Nat), r_3 = .tuple #[.slice x0A x0n x0c, .slice x1A x1n x1c] ∧
  Op7V.ex fun h => CellsAt w5 ⟨g1, 0, none⟩ 0 h.cells ∧
  NewVC w5 (.cells (Op7V.z : Op7V).cells.toArray 46) fun g2 w6 =>
  Stores ⟨g2, 0, none⟩ 0 h.cells w6 fun w7 =>
  ∃ (xA6 : Option Addr) (xn6 xc6 : Nat), w7.cell? ⟨g1, 1, none⟩ = some (.slice xA6 xn6 xc6) ∧
  SliceVC xA2 xn2 xc2 1 none (some (xn6 : Int)) none fun sA sn sc =>
  SetVC w7 ⟨g2, 1, none⟩ (.slice sA sn sc) fun w8 =>
  ∃ (xA7 : Option Addr) (xn7 xc7 : Nat), w8.cell? ⟨g1, 45, none⟩ = some (.slice xA7 xn7 xc7) ∧
  SliceVC xA4 xn4 xc4 1 none (some (xn7 : Int)) none fun sA1 sn1 sc1 =>
  SetVC w8 ⟨g2, 45, none⟩ (.slice sA1 sn1 sc1) fun w9 =>
  SetVC w9 ⟨g2, 39, none⟩ (.slice x0A x0n x0c) fun w10 =>
  JoinVC (S := Bool) (fun J2047 =>
      ∃ x2 : Int, w10.cell? ⟨g1, 0, none⟩ = some (.int .i64 x2) ∧
      JoinVC (S := Bool) (fun J16378 =>
          Br (decide (x2 = 1))
            (J16378 (decide (x2 = 1)) w10)
            (Br (decide (x2 = 2))
              (J16378 (decide (x2 = 2)) w10)
              (J16378 (decide (x2 = 7)) w10)))
        (fun s_ w11 => weirlaw7_plays_J16378 R g2 J2047 x2 s_ w11))
    (fun s_ w15 => weirlaw7_plays_J2047 R g1 xA2 xn2 xc2 xA4 xn4 xc4 x0A x0n x0c x1A x1n x1c g2 s_ w15))
    (fun ch3 w5 => R (.panicked ch3) w5)))
    (fun ch2 w4 => R (.panicked ch2) w4)))
    (fun ch1 w3 => R (.panicked ch1) w3)))
def weirlaw7_plays_H : Hints := [(16378, [(49, .bool)]), (65515, [(55, .bool)]), (2047, [(8, .bool)])]
set_option maxRecDepth 100000 in
theorem weirlaw7_plays_of (o : Op7V) (w : World) (R : Ending → World → Prop) (hvc_ : weirlaw7_plays_VC o w R) :
    Calls Tryz.prog 16 #[o.val] w R :=
  calls_of_wpc callOk mixedOk (H := weirlaw7_plays_H) (args := [o.val]) (fn := Tryz.f16) (c := bodyOf Tryz.f16) Tryz.func16 rfl (Nat.le_of_ble_eq_true rfl)
    (Eq.mp (by kernel_rfl : weirlaw7_plays_VC o w R = wpc Tryz.prog callF Tryz.f16.ntmps weirlaw7_plays_H 1 (bodyOf Tryz.f16) (argEnv 0 [o.val]) [] w (finish Tryz.prog callF Tryz.f16.results.toList R)) hvc_)

set_option maxRecDepth 100000 in
def weirlaw7_upTo_J420 (R : Ending → World → Prop) (scriptA : Option Addr) (scriptn : Nat) (i : Int) (K26 : (Int → World → Prop)) (t30_ : Bool) (w2 : World) : Prop :=
  Br t30_
    (IdxVC scriptA scriptn 47 i fun a2 =>
    Op7V.ex fun h => CellsAt w2 a2 0 h.cells ∧
    Calls Tryz.prog 16 #[h.val] w2 (onRet (fun r_ w3 => ∃ x2 : Bool, r_ = .bool x2 ∧
    Br (!x2)
      (R (.returned (.bool false)) w3)
      (K26 (IntKind.i64.wrap (i + 1)) w3))
      (fun ch w3 => R (.panicked ch) w3)))
    (K26 (IntKind.i64.wrap (i + 1)) w2)
set_option maxRecDepth 100000 in
def weirlaw7_upTo_L26 (R : Ending → World → Prop) (scriptA : Option Addr) (scriptn : Nat) (lo : Int) (hi : Int) (i : Int) (w1 : World) (K26 : (Int → World → Prop)) : Prop :=
  Br (decide (i < (scriptn : Int)))
    (JoinVC (S := Bool) (fun J420 =>
      IdxVC scriptA scriptn 47 i fun a =>
      ∃ x : Int, w1.cell? a = some (.int .i64 x) ∧
      Br (decide (lo ≤ x))
        (IdxVC scriptA scriptn 47 i fun a1 =>
        ∃ x1 : Int, w1.cell? a1 = some (.int .i64 x1) ∧
        J420 (decide (x1 ≤ hi)) w1)
        (J420 false w1))
    (fun s_ w2 => weirlaw7_upTo_J420 R scriptA scriptn i K26 s_ w2))
    (R (.returned (.bool true)) w1)
set_option maxRecDepth 100000 in
def weirlaw7_upTo_VC (scriptA : Option Addr) (scriptn : Nat) (_scriptc : Nat) (lo : Int) (hi : Int) (w : World) (R : Ending → World → Prop) : Prop :=
  LoopVC (S := Int) (fun s_ w1 K26 => weirlaw7_upTo_L26 R scriptA scriptn lo hi s_ w1 K26) 0 w
def weirlaw7_upTo_H : Hints := [(26, [(7, .int .i64)]), (420, [(30, .bool)])]
set_option maxRecDepth 100000 in
theorem weirlaw7_upTo_of (scriptA : Option Addr) (scriptn : Nat) (scriptc : Nat) (lo : Int) (hi : Int) (w : World) (R : Ending → World → Prop) (hvc_ : weirlaw7_upTo_VC scriptA scriptn scriptc lo hi w R) :
    Calls Tryz.prog 8 #[.slice scriptA scriptn scriptc, .int .i64 lo, .int .i64 hi] w R :=
  calls_of_wpc callOk mixedOk (H := weirlaw7_upTo_H) (args := [.slice scriptA scriptn scriptc, .int .i64 lo, .int .i64 hi]) (fn := Tryz.f8) (c := bodyOf Tryz.f8) Tryz.func8 rfl (Nat.le_of_ble_eq_true rfl)
    (Eq.mp (by kernel_rfl : weirlaw7_upTo_VC scriptA scriptn scriptc lo hi w R = wpc Tryz.prog callF Tryz.f8.ntmps weirlaw7_upTo_H 1 (bodyOf Tryz.f8) (argEnv 0 [.slice scriptA scriptn scriptc, .int .i64 lo, .int .i64 hi]) [] w (finish Tryz.prog callF Tryz.f8.results.toList R)) hvc_)

set_option maxRecDepth 100000 in
def weirlaw7_Ip6Reads_VC (scriptA : Option Addr) (scriptn : Nat) (scriptc : Nat) (w : World) (R : Ending → World → Prop) : Prop :=
  Calls Tryz.prog 7 #[] w (onRet (fun r_ w1 => ∃ x : Bool, r_ = .bool x ∧
  Br x
    (Calls Tryz.prog 8 #[.slice scriptA scriptn scriptc, .int .i64 1, .int .i64 3] w1 (onRet (fun r_1 w2 => ∃ x1 : Bool, r_1 = .bool x1 ∧
    R (.returned (.bool x1)) w2)
      (fun ch1 w2 => R (.panicked ch1) w2)))
    (R (.returned (.bool false)) w1))
    (fun ch w1 => R (.panicked ch) w1))
def weirlaw7_Ip6Reads_H : Hints := []
set_option maxRecDepth 100000 in
theorem weirlaw7_Ip6Reads_of (scriptA : Option Addr) (scriptn : Nat) (scriptc : Nat) (w : World) (R : Ending → World → Prop) (hvc_ : weirlaw7_Ip6Reads_VC scriptA scriptn scriptc w R) :
    Calls Tryz.prog 3 #[.slice scriptA scriptn scriptc] w R :=
  calls_of_wpc callOk mixedOk (H := weirlaw7_Ip6Reads_H) (args := [.slice scriptA scriptn scriptc]) (fn := Tryz.f3) (c := bodyOf Tryz.f3) Tryz.func3 rfl (Nat.le_of_ble_eq_true rfl)
    (Eq.mp (by kernel_rfl : weirlaw7_Ip6Reads_VC scriptA scriptn scriptc w R = wpc Tryz.prog callF Tryz.f3.ntmps weirlaw7_Ip6Reads_H 1 (bodyOf Tryz.f3) (argEnv 0 [.slice scriptA scriptn scriptc]) [] w (finish Tryz.prog callF Tryz.f3.results.toList R)) hvc_)

set_option maxRecDepth 100000 in
def weirlaw7_Ip6Writes_VC (scriptA : Option Addr) (scriptn : Nat) (scriptc : Nat) (w : World) (R : Ending → World → Prop) : Prop :=
  Calls Tryz.prog 7 #[] w (onRet (fun r_ w1 => ∃ x : Bool, r_ = .bool x ∧
  Br x
    (Calls Tryz.prog 8 #[.slice scriptA scriptn scriptc, .int .i64 4, .int .i64 6] w1 (onRet (fun r_1 w2 => ∃ x1 : Bool, r_1 = .bool x1 ∧
    R (.returned (.bool x1)) w2)
      (fun ch1 w2 => R (.panicked ch1) w2)))
    (R (.returned (.bool false)) w1))
    (fun ch w1 => R (.panicked ch) w1))
def weirlaw7_Ip6Writes_H : Hints := []
set_option maxRecDepth 100000 in
theorem weirlaw7_Ip6Writes_of (scriptA : Option Addr) (scriptn : Nat) (scriptc : Nat) (w : World) (R : Ending → World → Prop) (hvc_ : weirlaw7_Ip6Writes_VC scriptA scriptn scriptc w R) :
    Calls Tryz.prog 4 #[.slice scriptA scriptn scriptc] w R :=
  calls_of_wpc callOk mixedOk (H := weirlaw7_Ip6Writes_H) (args := [.slice scriptA scriptn scriptc]) (fn := Tryz.f4) (c := bodyOf Tryz.f4) Tryz.func4 rfl (Nat.le_of_ble_eq_true rfl)
    (Eq.mp (by kernel_rfl : weirlaw7_Ip6Writes_VC scriptA scriptn scriptc w R = wpc Tryz.prog callF Tryz.f4.ntmps weirlaw7_Ip6Writes_H 1 (bodyOf Tryz.f4) (argEnv 0 [.slice scriptA scriptn scriptc]) [] w (finish Tryz.prog callF Tryz.f4.results.toList R)) hvc_)

set_option maxRecDepth 100000 in
def weirlaw7_Ip6Chains_VC (scriptA : Option Addr) (scriptn : Nat) (scriptc : Nat) (w : World) (R : Ending → World → Prop) : Prop :=
  Calls Tryz.prog 7 #[] w (onRet (fun r_ w1 => ∃ x : Bool, r_ = .bool x ∧
  Br x
    (Calls Tryz.prog 8 #[.slice scriptA scriptn scriptc, .int .i64 7, .int .i64 8] w1 (onRet (fun r_1 w2 => ∃ x1 : Bool, r_1 = .bool x1 ∧
    R (.returned (.bool x1)) w2)
      (fun ch1 w2 => R (.panicked ch1) w2)))
    (R (.returned (.bool false)) w1))
    (fun ch w1 => R (.panicked ch) w1))
def weirlaw7_Ip6Chains_H : Hints := []
set_option maxRecDepth 100000 in
theorem weirlaw7_Ip6Chains_of (scriptA : Option Addr) (scriptn : Nat) (scriptc : Nat) (w : World) (R : Ending → World → Prop) (hvc_ : weirlaw7_Ip6Chains_VC scriptA scriptn scriptc w R) :
    Calls Tryz.prog 5 #[.slice scriptA scriptn scriptc] w R :=
  calls_of_wpc callOk mixedOk (H := weirlaw7_Ip6Chains_H) (args := [.slice scriptA scriptn scriptc]) (fn := Tryz.f5) (c := bodyOf Tryz.f5) Tryz.func5 rfl (Nat.le_of_ble_eq_true rfl)
    (Eq.mp (by kernel_rfl : weirlaw7_Ip6Chains_VC scriptA scriptn scriptc w R = wpc Tryz.prog callF Tryz.f5.ntmps weirlaw7_Ip6Chains_H 1 (bodyOf Tryz.f5) (argEnv 0 [.slice scriptA scriptn scriptc]) [] w (finish Tryz.prog callF Tryz.f5.results.toList R)) hvc_)

set_option maxRecDepth 100000 in
def weirlaw7_Ip6Plays_VC (scriptA : Option Addr) (scriptn : Nat) (scriptc : Nat) (w : World) (R : Ending → World → Prop) : Prop :=
  Calls Tryz.prog 7 #[] w (onRet (fun r_ w1 => ∃ x : Bool, r_ = .bool x ∧
  Br x
    (Calls Tryz.prog 8 #[.slice scriptA scriptn scriptc, .int .i64 1, .int .i64 8] w1 (onRet (fun r_1 w2 => ∃ x1 : Bool, r_1 = .bool x1 ∧
    R (.returned (.bool x1)) w2)
      (fun ch1 w2 => R (.panicked ch1) w2)))
    (R (.returned (.bool false)) w1))
    (fun ch w1 => R (.panicked ch) w1))
def weirlaw7_Ip6Plays_H : Hints := []
set_option maxRecDepth 100000 in
theorem weirlaw7_Ip6Plays_of (scriptA : Option Addr) (scriptn : Nat) (scriptc : Nat) (w : World) (R : Ending → World → Prop) (hvc_ : weirlaw7_Ip6Plays_VC scriptA scriptn scriptc w R) :
    Calls Tryz.prog 6 #[.slice scriptA scriptn scriptc] w R :=
  calls_of_wpc callOk mixedOk (H := weirlaw7_Ip6Plays_H) (args := [.slice scriptA scriptn scriptc]) (fn := Tryz.f6) (c := bodyOf Tryz.f6) Tryz.func6 rfl (Nat.le_of_ble_eq_true rfl)
    (Eq.mp (by kernel_rfl : weirlaw7_Ip6Plays_VC scriptA scriptn scriptc w R = wpc Tryz.prog callF Tryz.f6.ntmps weirlaw7_Ip6Plays_H 1 (bodyOf Tryz.f6) (argEnv 0 [.slice scriptA scriptn scriptc]) [] w (finish Tryz.prog callF Tryz.f6.results.toList R)) hvc_)
end N6
end Go.Proofs.YtkiogaglmjeplaaGreatDoor
/- Chapter 7's laws: what is laid for a call: bytes and options with wide room behind them. -/
namespace Go.Eng
open Go Go.RowKit
def marksB (n : Nat) : List Int := (List.range n).map fun i => ((201 + i % 5 : Nat) : Int)
theorem marksB_succ (n : Nat) : marksB (n + 1) = marksB n ++ [((201 + n % 5 : Nat) : Int)] := by unfold marksB; rw [List.range_succ, List.map_append]; rfl
theorem marksB_len (n : Nat) : (marksB n).length = n := by simp [marksB]
theorem marksB_bts (n : Nat) : Bts (marksB n) := fun x hx => by
  obtain ⟨k, _, rfl⟩ := List.mem_map.1 hx
  omega
def roomyL (l : List Int) : List Int := l ++ marksB 75
/-- An option laid so: its bytes stand at the front of a longer row. -/
structure LaidR where
  kind : Int
  row : Sl
  data : List Int
def LaidR.opt (x : LaidR) : OptR := ⟨⟨x.kind, ⟨x.row.A, x.data.length, x.row.k⟩⟩, x.data⟩
/-- Lists of bytes, by where they lie. -/
structure SlsAt (w : World) (s : Sl) (vs : List (Sl × List Int)) : Prop where
  len : vs.length = s.n
  small : s.n ≤ 5000000000000
  cells : Cells w s.A (vs.map fun v => v.1.val)
  each : ∀ v ∈ vs, BytesAt w v.1 v.2
theorem SlsAt.ext {w w' : World} {s : Sl} {vs : List (Sl × List Int)} (h : SlsAt w s vs) (hE : Ext w w') : SlsAt w' s vs := { h with cells := h.cells.ext hE, each := fun v hv => (h.each v hv).ext hE }
def markO : OptV := ⟨-201, ⟨none, 0, 0⟩⟩
end Go.Eng
namespace Go.Proofs.YtkiogaglmjeplaaGreatDoor
namespace N6
open Go.Eng Go.RowKit
theorem tS : TypeIs Tryz.prog 32 (.slice none 0 0) 1 24 := .of (by kernel_rfl)
section
variable {w : World} {Γ : List Fct} {s : Sl}
theorem roomy_spec {l : List Int} (h : BytesAt w s l) (hl : l.length ≤ 3900000) : Calls Tryz.prog 24 #[s.val] w fun e w' => ∃ s' : Sl, e = .returned s'.val ∧ s'.n = l.length + 75 ∧ BFine s' (roomyL l) ∧ Sep [Fct.rest w None, rowB w.heap.size s' (roomyL l)] w' := by
  refine weirlaw7_roomy_of s.A s.n s.k w _ ?_
  unfold weirlaw7_roomy_VC
  have hs := h.small
  have hsl := h.len
  refine appB (m := s.n) (xs := []) (ys := l) ((Sep.start0 w).nil _ _ _) 1 rfl h.cells h.len (by omega) (Nat.le_refl _) fun A2 c2 w1 H hc2 => ?_
  rw [Nat.zero_add] at H ⊢
  refine LoopVC.of (fun st w' => ∃ i : Nat, st.2 = i ∧ i ≤ 75 ∧ st.1.2.1 = l.length + i ∧ Sep [Fct.rest w None, ownB w.heap.size (.slice st.1.1 st.1.2.1 st.1.2.2) st.1.2.1 (l ++ marksB i)] w') (fun st _ => ((75 : Int) - st.2).toNat)
    ⟨0, rfl, Nat.zero_le _, hsl.symm, by show Sep [_, ownB _ _ _ (l ++ [])] _; rw [List.append_nil]; exact H⟩ ?_
  rintro ⟨⟨A1, n1, q1⟩, _⟩ w2 ⟨i, rfl, hi, hn1, H⟩
  simp only at hn1
  show weirlaw7_roomy_L122 _ A1 n1 q1 (i : Int) w2 _
  unfold weirlaw7_roomy_L122
  refine Br.dec (fun hlt => ?_) fun hge => ?_
  · have e1 : IntKind.u8.wrap (IntKind.i64.wrap (201 + Int.tmod (i : Int) 5)) = ((201 + i % 5 : Nat) : Int) := by
      have : Int.tmod (i : Int) 5 = ((i % 5 : Nat) : Int) := tmod_nat i 5
      rw [this, w64 (by omega) (by omega), wu8 (by omega) (by omega)]; omega
    have e2 : IntKind.i64.wrap ((i : Int) + 1) = ((i + 1 : Nat) : Int) := by rw [w64 (by omega) (by omega)]; omega
    rw [e1, e2]
    have hz := (H.restOf 0 rfl).size
    refine NewVC.sep H fun g1 w3 H => ?_
    have hz3 := (H.restOf 0 rfl).size
    refine appB (m := 1) (ys := [((201 + i % 5 : Nat) : Int)]) H 1 rfl (Cells.blk0 (H.blk 2 rfl)) rfl (show n1 + 1 ≤ 140737488355328 by omega) (by omega) fun A3 c3 w4 H hc3 => ⟨⟨i + 1, rfl, by omega, by show n1 + 1 = _; omega, ?_⟩, by simp only; omega⟩
    rw [marksB_succ, ← List.append_assoc]
    exact H.take 2
  · have : i = 75 := by omega
    subst this
    refine ⟨⟨A1, n1, q1⟩, rfl, hn1, ⟨by show n1 ≤ 4000000; omega, h.bts.append (marksB_bts 75)⟩, H⟩
def laidM (ls : List LaidR) : List Value := (ls.map fun x => x.opt.v.cells).flatten
def laidW (ls : List LaidR) : List Value := ls.map fun x => x.row.val
def laidF (b : Nat) (ls : List LaidR) : List Fct := ls.map fun x => rowB b x.row (roomyL x.data)
structure LaidFine (ls : List LaidR) : Prop where
  each : ∀ x ∈ ls, x.row.n = x.data.length + 75 ∧ BFine x.row (roomyL x.data) ∧ Bts x.data
theorem appS (H : Sep Γ w) (i : Nat) {b n c : Nat} {A A' : Option Addr} {xs : List Value} {o : Sl} {c' : Nat} (hi : Γ[i]? = some (Fct.own b 32 1 (.slice A n c) n xs)) (hs : Cells w A' [o.val]) (hn : n ≤ 5000000000000) (hb : b ≤ w.heap.size)
    {F : Option Addr → Nat → Nat → World → Prop} (h : ∀ A2 c2 w', Sep (Γ.set i (Fct.own b 32 1 (.slice A2 (n + 1) c2) (n + 1) (xs ++ [o.val]))) w' → n + 1 ≤ c2 → F A2 (n + 1) c2 w') :
    AppVC Tryz.prog #[62, 62] 62 (.slice A n c) (.slice A' 1 c') w F :=
  AppVC.sep H i Tryz.underlying62 tS rfl (by decide) hi hs rfl (fun v hv => by simp at hv; subst hv; rfl) (by omega) (by decide) hb h
/-- What is laid, as it lies. -/
structure LaidAt (w : World) (so sw : Sl) (ls : List LaidR) : Prop where
  opts : OptsAt w so (ls.map LaidR.opt)
  room : so.n + 20 ≤ so.k
  recs : Recs w so.A 2 ((ls.map fun x => x.opt.v.cells) ++ List.replicate 20 markO.cells)
  lists : SlsAt w sw (ls.map fun x => (x.row, roomyL x.data))
theorem LaidAt.ext {w' : World} {so sw : Sl} {ls : List LaidR} (h : LaidAt w so sw ls) (hE : Ext w w') : LaidAt w' so sw ls := ⟨h.opts.ext hE, h.room, h.recs.ext hE, h.lists.ext hE⟩
/-- What is laid, row by row. -/
structure LaidOk (so sw : Sl) (ls : List LaidR) : Prop where
  len : ls.length = so.n
  small : so.n ≤ 1048576
  room : so.n + 20 ≤ so.k
  lists : sw.n = so.n
  fine : LaidFine ls
def laidFs (b : Nat) (so sw : Sl) (ls : List LaidR) : List Fct :=
  Fct.own b 102 2 (.slice so.A (so.n + 20) so.k) (so.n + 20) (laidM ls ++ (List.replicate 20 markO.cells).flatten) :: Fct.own b 32 1 sw.val sw.n (laidW ls) :: laidF b ls
theorem laidAt_of {b : Nat} {so sw : Sl} {ls : List LaidR} (h : ∀ f ∈ laidFs b so sw ls, f.φ w) (hk : LaidOk so sw ls) : LaidAt w so sw ls := by
  have h1 := h _ (List.mem_cons_self)
  have h2 := h (Fct.own b 32 1 sw.val sw.n (laidW ls)) (by simp [laidFs])
  have hf := hk.fine
  have hn := hk.len
  have hsm := hk.small
  have hrm := hk.room
  have hall : Recs w so.A 2 ((ls.map fun x => x.opt.v.cells) ++ List.replicate 20 markO.cells) := by
    refine Recs.of_cells (by decide) (fun r hr => ?_) ?_
    · rcases List.mem_append.1 hr with hr | hr
      · obtain ⟨x, _, rfl⟩ := List.mem_map.1 hr; rfl
      · rw [(List.mem_replicate.1 hr).2]; rfl
    · rw [List.flatten_append]; exact own_cells h1
  have hrow : ∀ x ∈ ls, BytesAt w x.row (roomyL x.data) := fun x hx => bytesAt_of (b := b) (h (rowB b x.row (roomyL x.data)) (by simp only [laidFs, List.mem_cons]; exact .inr (.inr (List.mem_map.2 ⟨x, hx, rfl⟩)))) (hf.each x hx).2.1
  refine ⟨⟨by simp [hn], by omega, by omega, ?_, fun r hr => ?_⟩, hrm, hall, ⟨by simp [hn, hk.lists], by have := hk.lists; omega, ?_, fun v hv => ?_⟩⟩
  · intro k cs hkk
    refine hall k cs ?_
    have hk' : k < ls.length := by have := (List.getElem?_eq_some_iff.1 hkk).1; simpa using this
    rw [List.getElem?_append_left (by simpa using hk')]
    rw [List.map_map] at hkk; exact hkk
  · obtain ⟨x, hx, rfl⟩ := List.mem_map.1 hr
    have hB := hrow x hx
    have hxf := hf.each x hx
    refine ⟨rfl, by show x.data.length ≤ x.row.k; have := hB.cap; omega, by show x.data.length ≤ 4000000; have := hB.small; omega, hxf.2.2, ?_⟩
    have := hB.cells.take x.data.length
    rw [← List.map_take] at this
    have e : (roomyL x.data).take x.data.length = x.data := by unfold roomyL; rw [List.take_left' rfl]
    rw [e] at this
    exact this
  · rw [List.map_map]
    exact own_cells (A := sw.A) (c := sw.k) h2
  · obtain ⟨x, hx, rfl⟩ := List.mem_map.1 hv
    exact hrow x hx
theorem laidFs_less {b b' : Nat} {so sw : Sl} {ls : List LaidR} (h : b' ≤ b) : AllLe (laidFs b so sw ls) (laidFs b' so sw ls) :=
  .cons (own_less h).1 (own_less h).2 (.cons (own_less h).1 (own_less h).2 (AllLe.map ls fun _ _ => own_less h))
set_option maxHeartbeats 2000000 in
theorem laidOpts_sep {rs : List OptR} (hO : OptsAt w s rs) (hsm : s.n ≤ 1048576 ∧ ∀ r ∈ rs, r.data.length ≤ 3900000) : Calls Tryz.prog 49 #[s.val] w fun e w' => ∃ (so sw : Sl) (ls : List LaidR), e = .returned (.tuple #[so.val, sw.val]) ∧
    (ls.map LaidR.opt).map OptR.d = rs.map OptR.d ∧ LaidOk so sw ls ∧ Sep (Fct.rest w None :: laidFs w.heap.size so sw ls) w' := by
  refine weirlaw7_laidOpts_of s.A s.n s.k w _ ?_
  unfold weirlaw7_laidOpts_VC
  have hl := hO.len
  refine LoopVC.of (fun st w' => ∃ (i : Nat) (ls : List LaidR), st.2.2 = i ∧ i ≤ s.n ∧ (ls.map LaidR.opt).map OptR.d = (rs.take i).map OptR.d ∧ ls.length = i ∧ st.1.2.1 = i ∧ st.2.1.2.1 = i ∧ LaidFine ls ∧
      Sep (Fct.rest w None :: Fct.own w.heap.size 102 2 (.slice st.1.1 st.1.2.1 st.1.2.2) st.1.2.1 (laidM ls) :: Fct.own w.heap.size 32 1 (.slice st.2.1.1 st.2.1.2.1 st.2.1.2.2) st.2.1.2.1 (laidW ls) :: laidF w.heap.size ls) w') (fun st _ => ((s.n : Int) - st.2.2).toNat)
    ⟨0, [], rfl, Nat.zero_le _, rfl, rfl, rfl, rfl, ⟨fun x hx => by cases hx⟩, ((Sep.start0 w).nil _ _ _).nil _ _ _⟩ ?_
  rintro ⟨⟨A1, n1, q1⟩, ⟨A2, n2, q2⟩, _⟩ w1 ⟨i, ls, rfl, hi, hd, hll, hn1, hn2, hf, H⟩
  simp only at hn1 hn2
  subst hn1
  have hn2 := hn2.symm
  subst hn2
  show weirlaw7_laidOpts_L122 _ s.A s.n A1 n1 q1 A2 n1 q2 (n1 : Int) w1 _
  unfold weirlaw7_laidOpts_L122
  refine Br.dec (fun hlt => ?_) fun hge => ?_
  · have hri : rs[n1]? = some rs[n1] := List.getElem?_eq_getElem (by omega)
    have hmem : rs[n1] ∈ rs := List.getElem_mem _
    have htake : rs.take (n1 + 1) = rs.take n1 ++ [rs[n1]] := by rw [List.take_add_one, hri]; rfl
    have hi1 : IntKind.i64.wrap ((n1 : Int) + 1) = ((n1 + 1 : Nat) : Int) := by rw [w64 (by omega) (by omega)]; omega
    have hdl := (hO.each _ hmem).len
    refine OptsAt.idxR (hO.ext H.start1) hri fun a ha => ⟨_, _, _, c1 ha, ?_⟩
    have hz1 := H.start1.size
    refine (roomy_spec (s := rs[n1].v.data) (l := rs[n1].data) ((hO.each _ hmem).ext H.start1) (hsm.2 _ hmem)).mono ?_
    rintro _ w2 ⟨R, rfl, hRn, hRf, H2⟩
    have H := H.made (H2.lower 1 rfl hz1)
    refine ⟨_, _, _, rfl, NewVC.sep H fun g1 w3 H => ?_⟩
    have H := H.front
    have hz3 := (H.restOf 1 rfl).size
    refine appS (o := R) H 3 rfl (Cells.blk0 (H.blk 0 rfl)) (show n1 ≤ 5000000000000 by omega) (by omega) fun A3 c3 w4 H hc3 => ?_
    have H := H.tail
    refine DrawVC.sep H (fun w' => OptsAt w' s rs) fun w5 H => ⟨hO.ext (H.restOf 0 rfl), ?_⟩
    have hS := hO.ext (H.restOf 0 rfl)
    refine OptsAt.idxD (S := fun w' => OptsAt w' s rs) hS (fun w' h => h) hri fun a ha => ⟨_, fun w' h => c0 (ha w' h), ?_⟩
    refine OptsAt.idxD (S := fun w' => OptsAt w' s rs) hS (fun w' h => h) hri fun a ha => ⟨_, _, _, fun w' h => c1 (ha w' h), ?_⟩
    have hRk : R.n ≤ R.k := own_le (H2.own 1 rfl)
    refine ⟨by omega, by omega, NewVC.sep H fun g2 w6 H => ?_⟩
    have H := H.front
    have hz6 := (H.restOf 1 rfl).size
    refine ⟨hO.ext (H.restOf 1 rfl), ?_⟩
    have hnat : ((rs[n1].v.data.n : Int)).toNat = rs[n1].data.length := by omega
    refine appO (o := (LaidR.opt ⟨rs[n1].v.kind, R, rs[n1].data⟩).v) H 2 rfl (by have := Cells.blk0 (H.blk 0 rfl); rw [hnat] at this; exact this) (show n1 ≤ 1000000000 by omega) (by omega) fun A4 c4 w7 H hc4 =>
      ⟨hO.ext (H.restOf 1 rfl), ⟨n1 + 1, ls ++ [⟨rs[n1].v.kind, R, rs[n1].data⟩], hi1, by omega, ?_, by simp [hll], rfl, rfl, ⟨fun x hx => ?_⟩, ?_⟩, by simp only [hi1]; omega⟩
    · rw [htake, List.map_append, List.map_append, List.map_append, hd]; rfl
    · rcases List.mem_append.1 hx with hx | hx
      · exact hf.each x hx
      · simp at hx; subst hx; exact ⟨hRn, hRf, (hO.each _ hmem).bts⟩
    · have H := H.tail
      simp only [laidM, laidW, laidF, List.map_append, List.flatten_append, List.map_cons, List.map_nil, List.flatten_cons, List.flatten_nil, List.append_nil]
      exact H
  · have hin : n1 = s.n := by omega
    have htk : rs.take n1 = rs := List.take_of_length_le (by omega)
    rw [htk] at hd
    refine LoopVC.of (fun st w' => ∃ j : Nat, st.2 = j ∧ j ≤ 20 ∧ st.1.2.1 = n1 + j ∧ Sep (Fct.rest w None :: Fct.own w.heap.size 102 2 (.slice st.1.1 st.1.2.1 st.1.2.2) st.1.2.1 (laidM ls ++ (List.replicate j markO.cells).flatten) :: Fct.own w.heap.size 32 1 (.slice A2 n1 q2) n1 (laidW ls) :: laidF w.heap.size ls) w') (fun st _ => ((20 : Int) - st.2).toNat)
      ⟨0, rfl, Nat.zero_le _, rfl, by simpa using H⟩ ?_
    rintro ⟨⟨A5, n5, q5⟩, _⟩ w8 ⟨j, rfl, hj, hn5, H⟩
    simp only at hn5
    show weirlaw7_laidOpts_L250 _ s.n A2 n1 q2 A5 n5 q5 (j : Int) w8 _
    unfold weirlaw7_laidOpts_L250
    refine Br.dec (fun hlt => ?_) fun hge2 => ?_
    · refine NewVC.sep H fun g3 w9 H => ?_
      have H := H.front
      have hz9 := (H.restOf 1 rfl).size
      have hj1 : IntKind.i64.wrap ((j : Int) + 1) = ((j + 1 : Nat) : Int) := by rw [w64 (by omega) (by omega)]; omega
      refine appO (o := markO) H 2 rfl (Cells.blk0 (H.blk 0 rfl)) (show n5 ≤ 1000000000 by omega) (by omega) fun A6 c6 w10 H hc6 => ⟨⟨j + 1, hj1, by omega, by show n5 + 1 = _; omega, ?_⟩, by simp only [hj1]; omega⟩
      have H := H.tail
      rw [List.replicate_succ', List.flatten_append, ← List.append_assoc]
      simp only [List.flatten_cons, List.flatten_nil, List.append_nil]
      exact H
    · have hj20 : j = 20 := by omega
      subst hj20
      have hk5 : n5 ≤ q5 := own_le (s := ⟨A5, n5, q5⟩) (H.own 1 rfl)
      refine ⟨by omega, by omega, ?_⟩
      rw [Int.toNat_natCast]
      refine ⟨⟨A5, s.n, q5⟩, ⟨A2, n1, q2⟩, ls, rfl, hd, ⟨by show ls.length = s.n; omega, hsm.1, by show s.n + 20 ≤ q5; omega, hin, hf⟩, ?_⟩
      unfold laidFs
      show Sep (Fct.rest w None :: Fct.own w.heap.size _ 2 (.slice A5 (s.n + 20) q5) (s.n + 20) _ :: _) w8
      rw [← hin, ← hn5]
      exact H
theorem laidOpts_spec {rs : List OptR} (hO : OptsAt w s rs) (hsm : s.n ≤ 1048576 ∧ ∀ r ∈ rs, r.data.length ≤ 3900000) : Calls Tryz.prog 49 #[s.val] w fun e w' => ∃ (so sw : Sl) (ls : List LaidR), e = .returned (.tuple #[so.val, sw.val]) ∧
    (ls.map LaidR.opt).map OptR.d = rs.map OptR.d ∧ LaidAt w' so sw ls ∧ Ext w w' :=
  (laidOpts_sep hO hsm).mono fun _ _ ⟨so, sw, ls, h1, h2, h3, h4⟩ => ⟨so, sw, ls, h1, h2, laidAt_of (fun _ hf => h4.mem (List.mem_cons_of_mem _ hf)) h3, h4.start1⟩
end
end N6
end Go.Proofs.YtkiogaglmjeplaaGreatDoor
/- Chapter 7's laws: extension headers laid with wide room behind all their lists. -/
namespace Go.Eng
open Go Go.RowKit
theorem flat_one {α β : Type} (f : α → β) : ∀ l : List α, (l.map fun v => [f v]).flatten = l.map f
  | [] => rfl
  | x :: l => by simp only [List.map_cons, List.flatten_cons, List.singleton_append]; rw [flat_one f l]
structure LaidX where
  kind : Int
  so : Sl
  sw : Sl
  ls : List LaidR
  row : Sl
  data : List Int
def LaidX.ext (x : LaidX) : ExtR := ⟨⟨x.kind, x.so, ⟨x.row.A, x.data.length, x.row.k⟩⟩, x.ls.map LaidR.opt, x.data⟩
def LaidX.lists (x : LaidX) : List (Sl × List Int) := (x.ls.map fun l => (l.row, roomyL l.data)) ++ [(x.row, roomyL x.data)]
def markE : ExtV := ⟨-202, ⟨none, 0, 0⟩, ⟨none, 0, 0⟩⟩
end Go.Eng
namespace Go.Proofs.YtkiogaglmjeplaaGreatDoor
namespace N6
open Go.Eng Go.RowKit
section
variable {w : World} {Γ : List Fct} {s : Sl}
structure LaidXAt (w : World) (se sw : Sl) (xs : List LaidX) : Prop where
  exts : ExtsAt w se (xs.map LaidX.ext)
  room : se.n + 20 ≤ se.k
  recs : Recs w se.A 3 ((xs.map fun x => x.ext.v.cells) ++ List.replicate 20 markE.cells)
  lists : SlsAt w sw (xs.flatMap LaidX.lists)
  opts : ∀ x ∈ xs, LaidAt w x.so x.sw x.ls
theorem LaidXAt.ext {w' : World} {se sw : Sl} {xs : List LaidX} (h : LaidXAt w se sw xs) (hE : Ext w w') : LaidXAt w' se sw xs := ⟨h.exts.ext hE, h.room, h.recs.ext hE, h.lists.ext hE, fun x hx => (h.opts x hx).ext hE⟩
def xF (b : Nat) (x : LaidX) : List Fct := laidFs b x.so x.sw x.ls ++ [rowB b x.row (roomyL x.data)]
def xM (xs : List LaidX) : List Value := (xs.map fun x => x.ext.v.cells).flatten
def xW (xs : List LaidX) : List Value := xs.flatMap fun x => laidW x.ls ++ [x.row.val]
structure XOk (x : LaidX) : Prop where
  ok : LaidOk x.so x.sw x.ls
  n : x.row.n = x.data.length + 75
  fine : BFine x.row (roomyL x.data)
  bts : Bts x.data
theorem xW_eq (xs : List LaidX) : xW xs = (xs.flatMap LaidX.lists).map fun v => v.1.val := by
  unfold xW LaidX.lists laidW
  rw [List.map_flatMap]
  simp only [List.map_append, List.map_map, List.map_cons, List.map_nil]
  rfl
set_option maxHeartbeats 4000000 in
theorem laidExts_spec {rs : List ExtR} (hX : ExtsAt w s rs) (hsm : s.n ≤ 1048576 ∧ ∀ r ∈ rs, SmallE 1048576 r) : Calls Tryz.prog 25 #[s.val] w fun e w' => ∃ (se sw : Sl) (xs : List LaidX), e = .returned (.tuple #[se.val, sw.val]) ∧
    (xs.map LaidX.ext).map ExtR.d = rs.map ExtR.d ∧ LaidXAt w' se sw xs ∧ Ext w w' := by
  refine weirlaw7_laidExts_of s.A s.n s.k w _ ?_
  unfold weirlaw7_laidExts_VC
  have hl := hX.len
  refine LoopVC.of (fun st w' => ∃ (i : Nat) (xs : List LaidX), st.2.2 = i ∧ i ≤ s.n ∧ (xs.map LaidX.ext).map ExtR.d = (rs.take i).map ExtR.d ∧ xs.length = i ∧ st.1.2.1 = i ∧ st.2.1.2.1 ≤ i * 1048577 ∧ (∀ x ∈ xs, XOk x) ∧
      Sep (Fct.rest w None :: Fct.own w.heap.size 81 3 (.slice st.1.1 st.1.2.1 st.1.2.2) st.1.2.1 (xM xs) :: Fct.own w.heap.size 32 1 (.slice st.2.1.1 st.2.1.2.1 st.2.1.2.2) st.2.1.2.1 (xW xs) :: xs.flatMap (xF w.heap.size)) w') (fun st _ => ((s.n : Int) - st.2.2).toNat)
    ⟨0, [], rfl, Nat.zero_le _, rfl, rfl, rfl, Nat.zero_le _, (fun x hx => by cases hx), ((Sep.start0 w).nil _ _ _).nil _ _ _⟩ ?_
  rintro ⟨⟨A1, n1, q1⟩, ⟨A2, n2, q2⟩, _⟩ w1 ⟨i, xs, rfl, hi, hd, hxl, hn1, hn2, hf, H⟩
  simp only at hn1 hn2
  show weirlaw7_laidExts_L122 _ s.A s.n A1 n1 q1 A2 n2 q2 (i : Int) w1 _
  unfold weirlaw7_laidExts_L122
  have idx : ∀ {w'} (h : Ext w w') {r : ExtR} (hr : rs[i]? = some r) {F : Addr → Prop}, (∀ a, CellsAt w' a 0 r.v.cells → F a) → IdxVC s.A s.n 3 (i : Int) F := fun {w'} h {r} hr {F} hF =>
    ExtsAt.idxD (S := fun w' => ExtsAt w' s rs) (hX.ext h) (fun w' h => h) hr fun a ha => hF a (ha _ (hX.ext h))
  refine Br.dec (fun hlt => ?_) fun hge => ?_
  · have hri : rs[i]? = some rs[i] := List.getElem?_eq_getElem (by omega)
    have hmem : rs[i] ∈ rs := List.getElem_mem _
    have htake : rs.take (i + 1) = rs.take i ++ [rs[i]] := by rw [List.take_add_one, hri]; rfl
    have hi1 : IntKind.i64.wrap ((i : Int) + 1) = ((i + 1 : Nat) : Int) := by rw [w64 (by omega) (by omega)]; omega
    obtain ⟨b1, b2, b3⟩ := hsm.2 _ hmem
    have hdl := (hX.data _ hmem).len
    refine idx H.start1 hri fun a ha => ⟨_, _, _, c1 ha, ?_⟩
    have hz1 := H.start1.size
    refine (laidOpts_sep (s := rs[i].v.opts) (rs := rs[i].opts) ((hX.opts _ hmem).ext H.start1) ⟨b2, fun r hr => by have := b3 r hr; have := ((hX.opts _ hmem).each r hr).len; omega⟩).mono ?_
    rintro _ w2 ⟨so, sw, ls, rfl, hls, hok, H2⟩
    have H2 := (AllLe.append (AllLe.refl [Fct.rest w1 None]) (laidFs_less hz1)).sep H2
    have H := H.mades H2
    refine ⟨_, _, _, _, _, _, rfl, ?_⟩
    refine idx (H.restOf 0 rfl) hri fun a ha => ⟨_, _, _, c2 ha, ?_⟩
    have hz2 := (H.restOf 0 rfl).size
    refine (roomy_spec (s := rs[i].v.data) (l := rs[i].data) ((hX.data _ hmem).ext (H.restOf 0 rfl)) (by omega)).mono ?_
    rintro _ w3 ⟨R, rfl, hRn, hRf, H3⟩
    have hRk : R.n ≤ R.k := own_le (H3.own 1 rfl)
    have H := H.made (H3.lower 1 rfl hz2)
    refine ⟨_, _, _, rfl, ?_⟩
    have hz3 := (H.restOf 0 rfl).size
    have hswm : (Fct.own w.heap.size 32 1 sw.val sw.n (laidW ls)).φ w3 := H.mem (List.mem_append_left _ (List.mem_append_right _ (show _ ∈ laidFs w.heap.size so sw ls from List.mem_cons_of_mem _ List.mem_cons_self)))
    have hol := hok.len
    have hosm := hok.small
    have holi := hok.lists
    refine AppVC.sep H 2 Tryz.underlying62 tS rfl (by decide) rfl (own_cells (A := sw.A) (c := sw.k) hswm) (by unfold laidW; simp [hol, holi]) (fun v hv => by obtain ⟨x, _, rfl⟩ := List.mem_map.1 hv; rfl) (show (n2 + sw.n) * 24 ≤ 140737488355328 by omega) (by decide) (by omega) fun A3 c3 w4 H hc3 => ?_
    refine NewVC.sep H fun g1 w5 H => ?_
    have H := H.front
    have hz5 := (H.restOf 1 rfl).size
    refine appS (o := R) H 3 rfl (Cells.blk0 (H.blk 0 rfl)) (show n2 + sw.n ≤ 5000000000000 by omega) (by omega) fun A4 c4 w6 H hc4 => ?_
    have H := H.tail
    refine DrawVC.sep H (fun w' => ExtsAt w' s rs) fun w7 H => ⟨hX.ext (H.restOf 0 rfl), ?_⟩
    have hS := hX.ext (H.restOf 0 rfl)
    refine ExtsAt.idxD (S := fun w' => ExtsAt w' s rs) hS (fun w' h => h) hri fun a ha => ⟨_, fun w' h => c0 (ha w' h), ?_⟩
    refine ExtsAt.idxD (S := fun w' => ExtsAt w' s rs) hS (fun w' h => h) hri fun a ha => ⟨_, _, _, fun w' h => c2 (ha w' h), ?_⟩
    refine ⟨by omega, by omega, NewVC.sep H fun g2 w8 H => ?_⟩
    have H := H.front
    have hz8 := (H.restOf 1 rfl).size
    refine ⟨hX.ext (H.restOf 1 rfl), ?_⟩
    have hnat : ((rs[i].v.data.n : Int)).toNat = rs[i].data.length := by omega
    obtain ⟨x, hx⟩ : ∃ x : LaidX, x = ⟨rs[i].v.kind, so, sw, ls, R, rs[i].data⟩ := ⟨_, rfl⟩
    refine appE (o := x.ext.v) H 2 rfl (by have := Cells.blk0 (H.blk 0 rfl); rw [hnat] at this; rw [hx]; exact this) (show n1 ≤ 1000000000 by omega) (by omega) fun A5 c5 w9 H hc5 =>
      ⟨hX.ext (H.restOf 1 rfl), ⟨i + 1, xs ++ [x], hi1, by omega, ?_, by simp [hxl], by show n1 + 1 = i + 1; omega, by show n2 + sw.n + 1 ≤ (i + 1) * 1048577; omega, fun y hy => ?_, ?_⟩, by simp only [hi1]; omega⟩
    · rw [htake, List.map_append, List.map_append, List.map_append, hd, hx]
      simp only [List.map_cons, List.map_nil, ExtR.d, LaidX.ext, hls]
    · rcases List.mem_append.1 hy with hy | hy
      · exact hf y hy
      · simp at hy; subst hy; rw [hx]; exact ⟨hok, hRn, hRf, (hX.data _ hmem).bts⟩
    · have H := H.tail
      have e1 : xM (xs ++ [x]) = xM xs ++ x.ext.v.cells := by unfold xM; simp
      have e2 : xW (xs ++ [x]) = xW xs ++ laidW ls ++ [R.val] := by unfold xW; rw [hx]; simp
      have e3 : (xs ++ [x]).flatMap (xF w.heap.size) = xs.flatMap (xF w.heap.size) ++ laidFs w.heap.size so sw ls ++ [rowB w.heap.size R (roomyL rs[i].data)] := by rw [hx]; simp [xF]
      rw [e1, e2, e3]
      exact H
  · have hin : i = s.n := by omega
    have htk : rs.take i = rs := List.take_of_length_le (by omega)
    rw [htk] at hd
    refine LoopVC.of (fun st w' => ∃ j : Nat, st.2 = j ∧ j ≤ 20 ∧ st.1.2.1 = n1 + j ∧ Sep (Fct.rest w None :: Fct.own w.heap.size 81 3 (.slice st.1.1 st.1.2.1 st.1.2.2) st.1.2.1 (xM xs ++ (List.replicate j markE.cells).flatten) :: Fct.own w.heap.size 32 1 (.slice A2 n2 q2) n2 (xW xs) :: xs.flatMap (xF w.heap.size)) w') (fun st _ => ((20 : Int) - st.2).toNat)
      ⟨0, rfl, Nat.zero_le _, rfl, by simpa using H⟩ ?_
    rintro ⟨⟨A5, n5, q5⟩, _⟩ w8 ⟨j, rfl, hj, hn5, H⟩
    simp only at hn5
    show weirlaw7_laidExts_L250 _ s.n A2 n2 q2 A5 n5 q5 (j : Int) w8 _
    unfold weirlaw7_laidExts_L250
    refine Br.dec (fun hlt => ?_) fun hge2 => ?_
    · refine NewVC.sep H fun g3 w9 H => ?_
      have H := H.front
      have hz9 := (H.restOf 1 rfl).size
      have hj1 : IntKind.i64.wrap ((j : Int) + 1) = ((j + 1 : Nat) : Int) := by rw [w64 (by omega) (by omega)]; omega
      refine appE (o := markE) H 2 rfl (Cells.blk0 (H.blk 0 rfl)) (show n5 ≤ 1000000000 by omega) (by omega) fun A6 c6 w10 H hc6 => ⟨⟨j + 1, hj1, by omega, by show n5 + 1 = _; omega, ?_⟩, by simp only [hj1]; omega⟩
      have H := H.tail
      rw [List.replicate_succ', List.flatten_append, ← List.append_assoc]
      simp only [List.flatten_cons, List.flatten_nil, List.append_nil]
      exact H
    · have hj20 : j = 20 := by omega
      subst hj20
      have hk5 : n5 ≤ q5 := own_le (s := ⟨A5, n5, q5⟩) (H.own 1 rfl)
      refine ⟨by omega, by omega, ?_⟩
      rw [Int.toNat_natCast]
      have hall : Recs w8 A5 3 ((xs.map fun x => x.ext.v.cells) ++ List.replicate 20 markE.cells) := by
        refine Recs.of_cells (by decide) (fun r hr => ?_) ?_
        · rcases List.mem_append.1 hr with hr | hr
          · obtain ⟨x, _, rfl⟩ := List.mem_map.1 hr; rfl
          · rw [(List.mem_replicate.1 hr).2]; rfl
        · rw [List.flatten_append]; exact H.cells 1 rfl
      have hxm : ∀ x ∈ xs, ∀ f ∈ xF w.heap.size x, f.φ w8 := fun x hx f hf => H.mem (by
        simp only [List.mem_cons]
        exact .inr (.inr (.inr (List.mem_flatMap.2 ⟨x, hx, hf⟩))))
      have hL : ∀ x ∈ xs, LaidAt w8 x.so x.sw x.ls := fun x hx => laidAt_of (fun f hfm => hxm x hx f (List.mem_append_left _ hfm)) (hf x hx).ok
      have hrow : ∀ x ∈ xs, BytesAt w8 x.row (roomyL x.data) := fun x hx => bytesAt_of (b := w.heap.size) (hxm x hx _ (List.mem_append_right _ (by simp))) (hf x hx).fine
      have hWl : (xs.flatMap LaidX.lists).length = n2 := by
        have := (H.own 2 rfl).1
        rw [xW_eq, List.length_map] at this; omega
      refine ⟨⟨A5, s.n, q5⟩, ⟨A2, n2, q2⟩, xs, rfl, hd, ⟨⟨by show (xs.map LaidX.ext).length = s.n; rw [List.length_map]; omega, by show s.n ≤ q5; omega, by show s.n ≤ 4000000; omega, ?_, fun r hr => ?_, fun r hr => ?_⟩, by show s.n + 20 ≤ q5; omega, hall, ⟨hWl, by show n2 ≤ 5000000000000; omega, ?_, fun v hv => ?_⟩, hL⟩, H.start1⟩
      · intro k cs hkk
        refine hall k cs ?_
        have hk' : k < xs.length := by have := (List.getElem?_eq_some_iff.1 hkk).1; simpa using this
        rw [List.getElem?_append_left (by simpa using hk')]
        rw [List.map_map] at hkk; exact hkk
      · obtain ⟨x, hx, rfl⟩ := List.mem_map.1 hr
        exact (hL x hx).opts
      · obtain ⟨x, hx, rfl⟩ := List.mem_map.1 hr
        have hB := hrow x hx
        have hxf := hf x hx
        refine ⟨rfl, by show x.data.length ≤ x.row.k; have := hB.cap; have := hxf.n; omega, by show x.data.length ≤ 4000000; have := hB.small; have := hxf.n; omega, hxf.bts, ?_⟩
        have := hB.cells.take x.data.length
        rw [← List.map_take] at this
        have e : (roomyL x.data).take x.data.length = x.data := by unfold roomyL; rw [List.take_left' rfl]
        rw [e] at this
        exact this
      · rw [← xW_eq]
        exact H.cells 2 rfl
      · obtain ⟨x, hx, hv⟩ := List.mem_flatMap.1 hv
        rcases List.mem_append.1 hv with hv | hv
        · obtain ⟨l, hl, rfl⟩ := List.mem_map.1 hv
          exact (hL x hx).lists.each _ (List.mem_map.2 ⟨l, hl, rfl⟩)
        · simp at hv; subst hv; exact hrow x hx
def roomD (d : ExtD) : List (List Int) := d.opts.map (fun o => roomyL o.data) ++ [roomyL d.data]
theorem lists_snd (xs : List LaidX) : (xs.flatMap LaidX.lists).map Prod.snd = ((xs.map LaidX.ext).map ExtR.d).flatMap roomD := by
  rw [List.map_flatMap, List.map_map, List.flatMap_map]
  congr 1
  funext x
  simp [LaidX.lists, roomD, LaidX.ext, ExtR.d, LaidR.opt, OptR.d, List.map_map, Function.comp_def]
end
end N6
end Go.Proofs.YtkiogaglmjeplaaGreatDoor
/- Chapter 7's laws: every call, in every order; what is handed in stays as it was. -/
namespace Go.Proofs.YtkiogaglmjeplaaGreatDoor
namespace N6
open Go.Eng Go.RowKit
section
variable {w : World} {s : Sl}
theorem sls_idx {w : World} {S : World → Prop} {a : Sl} {va : List (Sl × List Int)} (hw : S w) (hS : ∀ w', S w' → SlsAt w' a va) {i : Nat} {x : Sl × List Int} (hx : va[i]? = some x) {F : Addr → Prop} (hF : ∀ q, (∀ w', S w' → w'.cell? q = some x.1.val) → F q) : IdxVC a.A a.n 1 (i : Int) F := by
  refine IdxVC.recD (size := 1) (rs := va.map fun v => [v.1.val]) (cs := [x.1.val]) S hw (fun w' hw' => ?_) (by simpa using (hS w hw).len) (by rw [List.getElem?_map, hx]; rfl) fun q hq => hF q fun w' hw' => c0 (hq w' hw')
  refine Recs.of_cells (by decide) (fun r hr => ?_) ?_
  · obtain ⟨y, _, rfl⟩ := List.mem_map.1 hr; rfl
  · have := (hS w' hw').cells
    rw [flat_one]; exact this
set_option maxHeartbeats 1000000 in
theorem full_spec {sw : Sl} {va : List (Sl × List Int)} {rs : List ExtR} (ha : SlsAt w sw va) (hX : ExtsAt w s rs) (hsm : s.n ≤ 1048576 ∧ ∀ r ∈ rs, SmallE 1048576 r) (he : va.map Prod.snd = (rs.map ExtR.d).flatMap roomD) :
    Calls Tryz.prog 29 #[sw.val, s.val] w fun e w' => Ext w w' ∧ e = .returned (.bool true) := by
  refine weirlaw7_full_of sw.A sw.n sw.k s.A s.n s.k w _ ?_
  unfold weirlaw7_full_VC
  refine (laidExts_spec hX hsm).mono ?_
  rintro _ w1 ⟨se, sv, xs, rfl, hls, hL, hE1⟩
  have hb := hL.lists
  have ha := ha.ext hE1
  have hvd : (xs.flatMap LaidX.lists).map Prod.snd = va.map Prod.snd := by rw [lists_snd, hls, he]
  have la := ha.len
  have lb := hb.len
  have hs := hb.small
  have hlen : (xs.flatMap LaidX.lists).length = va.length := by have := congrArg List.length hvd; simpa using this
  obtain ⟨vb, hvb⟩ : ∃ vb, vb = xs.flatMap LaidX.lists := ⟨_, rfl⟩
  rw [← hvb] at hb hvd lb hlen
  refine ⟨_, _, _, _, _, _, rfl, Br.no (by omega) ?_⟩
  refine LoopVC.of (fun st w' => ∃ i : Nat, st = (i : Int) ∧ i ≤ va.length ∧ Ext w1 w') (fun st _ => ((va.length : Int) - st).toNat) ⟨0, rfl, Nat.zero_le _, Mod.refl _ _⟩ ?_
  rintro _ w2 ⟨i, rfl, hi, hE⟩
  unfold weirlaw7_full_L122
  refine Br.dec (fun hlt => ?_) fun hge => ⟨hE1.trans hE, rfl⟩
  have hva : va[i]? = some va[i] := List.getElem?_eq_getElem (by omega)
  have hvbi : vb[i]? = some vb[i] := List.getElem?_eq_getElem (by omega)
  have hv : vb[i].2 = va[i].2 := by
    have := congrArg (·[i]?) hvd
    simpa [List.getElem?_map, hva, hvbi] using this
  refine DrawVC.of (fun w' => SlsAt w' sw va ∧ SlsAt w' sv vb) fun w3 hE3 _ => ⟨⟨ha.ext (hE.trans hE3), hb.ext (hE.trans hE3)⟩, ?_⟩
  have hE := hE.trans hE3
  have hS : SlsAt w3 sw va ∧ SlsAt w3 sv vb := ⟨ha.ext hE, hb.ext hE⟩
  refine sls_idx (S := fun w' => SlsAt w' sw va ∧ SlsAt w' sv vb) hS (fun w' h => h.2) hvbi fun q hq => ⟨_, _, _, hq, ?_⟩
  refine sls_idx (S := fun w' => SlsAt w' sw va ∧ SlsAt w' sv vb) hS (fun w' h => h.1) hva fun q' hq' => ⟨_, _, _, hq', ?_⟩
  refine (alike7_spec (s := vb[i].1) (t := va[i].1) (hS.2.each _ (List.getElem_mem _)) (hS.1.each _ (List.getElem_mem _))).mono ?_
  rintro _ w4 ⟨hw4, rfl⟩
  subst w4
  rw [decide_eq_true hv]
  refine ⟨_, rfl, hS, Br.f rfl ?_⟩
  rw [w64 (by omega) (by omega)]
  exact ⟨⟨i + 1, by omega, by omega, hE⟩, by omega⟩
set_option maxHeartbeats 1000000 in
theorem whole_marks {se sw : Sl} {xs : List LaidX} (hL : LaidXAt w se sw xs) : Calls Tryz.prog 28 #[se.val] w fun e w' => Ext w w' ∧ e = .returned (.bool true) := by
  refine weirlaw7_whole_of se.A se.n se.k w _ ?_
  unfold weirlaw7_whole_VC
  have hs := hL.exts.small
  have hroom := hL.room
  have hll : xs.length = se.n := by simpa using hL.exts.len
  rw [w64 (by omega) (by omega)]
  refine ⟨by omega, by omega, ?_⟩
  rw [show ((se.n : Int) + 20).toNat = se.n + 20 by omega]
  refine LoopVC.of (fun st w' => w' = w ∧ ∃ j : Nat, st = ((se.n + j : Nat) : Int) ∧ j ≤ 20) (fun st _ => ((se.n : Int) + 20 - st).toNat) ⟨rfl, 0, rfl, Nat.zero_le _⟩ ?_
  rintro _ w1 ⟨hw1, j, rfl, hj⟩
  subst w1
  unfold weirlaw7_whole_L58
  refine Br.dec (fun hlt => ?_) fun hge => ?_
  · refine IdxVC.recD (rs := (xs.map fun x => x.ext.v.cells) ++ List.replicate 20 markE.cells) (cs := markE.cells) (fun w' => w' = w) rfl (fun w' e => by subst e; exact hL.recs) (by simp [hll]) ?_ fun a ha => ⟨_, c0 (ha w rfl), Br.no (fun h => h rfl) ?_⟩
    · rw [List.getElem?_append_right (by simp [hll]), List.length_map, hll, Nat.add_sub_cancel_left]
      exact List.getElem?_replicate_of_lt (by omega)
    · rw [w64 (by omega) (by omega)]
      exact ⟨⟨rfl, j + 1, by omega, by omega⟩, by omega⟩
  refine LoopVC.of (fun st w' => ∃ i : Nat, st = (i : Int) ∧ i ≤ se.n ∧ Ext w w') (fun st _ => ((se.n : Int) - st).toNat) ⟨0, rfl, Nat.zero_le _, Mod.refl _ _⟩ ?_
  rintro _ w2 ⟨i, rfl, hi, hE⟩
  unfold weirlaw7_whole_L122
  refine Br.dec (fun hlt => ?_) fun hge => ⟨hE, rfl⟩
  have hxi : xs[i]? = some xs[i] := List.getElem?_eq_getElem (by omega)
  have hxe : (xs.map LaidX.ext)[i]? = some xs[i].ext := by rw [List.getElem?_map, hxi]; rfl
  have hO := hL.opts _ (List.getElem_mem (l := xs) (n := i) (by omega))
  have hos := hO.opts.small
  have hor := hO.room
  have hol : xs[i].ls.length = xs[i].so.n := by simpa using hO.opts.len
  refine DrawVC.of (fun w' => ExtsAt w' se (xs.map LaidX.ext)) fun w3 hE3 _ => ⟨hL.exts.ext (hE.trans hE3), ?_⟩
  have hE := hE.trans hE3
  have hS := hL.exts.ext hE
  refine ExtsAt.idxD (S := fun w' => ExtsAt w' se (xs.map LaidX.ext)) hS (fun w' h => h) hxe fun a1 ha1 => ⟨_, _, _, fun w' h => c1 (ha1 w' h), ?_⟩
  refine ExtsAt.idxD (S := fun w' => ExtsAt w' se (xs.map LaidX.ext)) hS (fun w' h => h) hxe fun a2 ha2 => ⟨_, _, _, fun w' h => c1 (ha2 w' h), ?_⟩
  have e20 : IntKind.i64.wrap ((xs[i].ext.v.opts.n : Int) + 20) = ((xs[i].so.n + 20 : Nat) : Int) := by
    show IntKind.i64.wrap ((xs[i].so.n : Int) + 20) = _
    rw [w64 (by omega) (by omega)]; omega
  rw [e20]
  refine ⟨by omega, by show ((xs[i].so.n + 20 : Nat) : Int) ≤ (xs[i].so.k : Int); omega, ?_⟩
  rw [Int.toNat_natCast]
  refine ExtsAt.idxD (S := fun w' => ExtsAt w' se (xs.map LaidX.ext)) hS (fun w' h => h) hxe fun a3 ha3 => ⟨_, _, _, c1 (ha3 _ hS), ?_⟩
  refine LoopVC.of (fun st w' => w' = w3 ∧ ∃ q : Nat, st = ((xs[i].so.n + q : Nat) : Int) ∧ q ≤ 20) (fun st _ => ((xs[i].so.n : Int) + 20 - st).toNat) ⟨rfl, 0, rfl, Nat.zero_le _⟩ ?_
  rintro _ w4 ⟨hw4, q, rfl, hq⟩
  subst w4
  unfold weirlaw7_whole_L15654
  refine Br.dec (fun hlt2 => ?_) fun hge2 => ?_
  · refine IdxVC.recD (rs := (xs[i].ls.map fun x => x.opt.v.cells) ++ List.replicate 20 markO.cells) (cs := markO.cells) (fun w' => w' = w3) rfl (fun w' e => by subst e; exact hO.recs.ext hE) (by simp [hol]) ?_ fun a ha => ⟨_, c0 (ha w3 rfl), Br.no (fun h => h rfl) ?_⟩
    · rw [List.getElem?_append_right (by simp [hol]), List.length_map, hol, Nat.add_sub_cancel_left]
      exact List.getElem?_replicate_of_lt (by omega)
    · rw [w64 (by omega) (by omega)]
      exact ⟨⟨rfl, q + 1, by omega, by omega⟩, by omega⟩
  · rw [w64 (by omega) (by omega)]
    exact ⟨⟨i + 1, by omega, by omega, hE⟩, by omega⟩
theorem cut_front {R : Sl} {l L : List Int} (h : BytesAt w R (l ++ L)) : BytesAt w ⟨R.A, l.length, R.k⟩ l := by
  have hl := h.len
  have hc := h.cap
  have hs := h.small
  rw [List.length_append] at hl
  refine ⟨rfl, by show l.length ≤ R.k; omega, by show l.length ≤ 4000000; omega, fun x hx => h.bts x (List.mem_append_left _ hx), ?_⟩
  have := h.cells.take l.length
  rw [← List.map_take, List.take_left'] at this
  · exact this
  · rfl
/-- Hop over the front of a longer row. -/
theorem hop_wide {n c b : Nat} {A : Option Addr} {l L : List Int} (ho : w.ownsRow b 5 1 (.slice A n c) n ((l ++ L).map (.int .u8))) (hB : Bts l) (hn : n ≤ 140737488355328) :
    Calls Tryz.prog 47 #[.slice A l.length c] w fun e w' => e = .returned (.int .i64 (hopS l).2) ∧ Mod (fun k => (Value.slice A n c).ownBlock = some k) w w' ∧ w'.heap.size = w.heap.size ∧ w'.ownsRow b 5 1 (.slice A n c) n (((hopS l).1 ++ L).map (.int .u8)) := by
  refine ip6_Hop_of A l.length c w _ ?_
  unfold ip6_Hop_VC
  have hl : l.length + L.length = n := by have := ho.1; simpa using this
  have hc : Cells w A (l.map (.int .u8)) := by
    have := (own_cells ho).take l.length
    rw [← List.map_take, List.take_left' rfl] at this
    exact this
  have b0 := getD_byte hB 0
  have b7 := getD_byte hB 7
  have id : ∀ {er : Int}, hopS l = (l, er) → (Ending.returned (.int .i64 er) = .returned (.int .i64 (hopS l).2) ∧ Mod (fun k => (Value.slice A n c).ownBlock = some k) w w ∧ w.heap.size = w.heap.size ∧ w.ownsRow b 5 1 (.slice A n c) n (((hopS l).1 ++ L).map (.int .u8))) := fun h => by
    rw [h]; exact ⟨rfl, Mod.refl _ _, rfl, ho⟩
  refine Br.dec (fun h1 => id (by unfold hopS; rw [if_pos (by omega)])) fun h1 => ?_
  refine IdxVC.int (k := .u8) (xs := l) hc (by decide) (by omega) rfl fun a ha => ⟨_, ha, ?_⟩
  have e0 : l.getD (0 : Int).toNat 0 = l.getD 0 0 := rfl
  have e7 : l.getD (7 : Int).toNat 0 = l.getD 7 0 := rfl
  rw [e0, Int.fdiv_eq_ediv_of_nonneg _ (by decide)]
  refine Br.dec (fun h2 => id (by unfold hopS; rw [if_neg (by omega), if_pos h2])) fun h2 => ?_
  refine IdxVC.int (k := .u8) (xs := l) hc (by decide) (by omega) rfl fun a1 ha1 => ⟨_, ha1, ?_⟩
  rw [e7]
  refine Br.dec (fun h3 => id (by unfold hopS; rw [if_neg (by omega), if_neg h2, if_pos h3])) fun h3 => ?_
  refine IdxVC.int (k := .u8) (xs := l) hc (by decide) (by omega) rfl fun a2 ha2 => ⟨_, ha2, ?_⟩
  rw [e7, wu8 (by omega) (by omega)]
  have hs : hopS l = (l.set 7 (l.getD 7 0 - 1), 0) := by unfold hopS; rw [if_neg (by omega), if_neg h2, if_neg h3]
  refine IdxVC.own ho (by decide) (by omega) (by omega) fun a' _ hset => hset _ _ rfl fun w1 hz hm ho1 => ?_
  rw [hs]
  refine ⟨rfl, hm.mono fun k _ e => e.symm, hz, ?_⟩
  have e : ((l.set 7 (l.getD 7 0 - 1)) ++ L).map (Value.int .u8) = ((l ++ L).map (.int .u8)).set (7 : Int).toNat (.int .u8 (l.getD 7 0 - 1)) := by
    rw [show (7 : Int).toNat = 7 from rfl, map_set, List.set_append_left _ _ (by omega)]
  rw [e]; exact ho1
theorem refHop_spec {l : List Int} (hB : BytesAt w s l) : Calls Tryz.prog 48 #[s.val] w fun e w' => ∃ s' : Sl, e = .returned (.tuple #[s'.val, .int .i64 (hopS l).2]) ∧ BytesAt w' s' (hopS l).1 ∧ (hopS l).1.length = l.length ∧ Ext w w' := by
  refine weirref7_Hop_of s.A s.n s.k w _ ?_
  unfold weirref7_Hop_VC
  have hl := hB.len
  have hs := hB.small
  have b0 := getD_byte hB.bts 0
  have b7 := getD_byte hB.bts 7
  refine (copied_spec hB).mono ?_
  rintro _ w1 ⟨sc, rfl, hf, H⟩
  have hBc : BytesAt w1 sc l := bytesAt_of (H.own 1 rfl) hf
  have hcl := hBc.len
  have id : ∀ {er : Int}, hopS l = (l, er) → (∃ s' : Sl, Ending.returned (.tuple #[.slice sc.A sc.n sc.k, .int .i64 er]) = .returned (.tuple #[s'.val, .int .i64 (hopS l).2]) ∧ BytesAt w1 s' (hopS l).1 ∧ (hopS l).1.length = l.length ∧ Ext w w1) := fun h => by
    rw [h]; exact ⟨sc, rfl, hBc, rfl, H.restOf 0 rfl⟩
  refine ⟨_, _, _, rfl, Br.dec (fun h1 => id (by unfold hopS; rw [if_pos (by omega)])) fun h1 => ?_⟩
  have e0 : l.getD (0 : Int).toNat 0 = l.getD 0 0 := rfl
  have e7 : l.getD (7 : Int).toNat 0 = l.getD 7 0 := rfl
  refine IdxVC.int (k := .u8) (xs := l) hBc.cells (by decide) (by omega) hcl fun a ha => ⟨_, ha, ?_⟩
  rw [e0, Int.tdiv_eq_ediv_of_nonneg (by omega), wu8 (by omega) (by omega)]
  refine Br.dec (fun h2 => id (by unfold hopS; rw [if_neg (by omega), if_pos h2])) fun h2 => ?_
  refine IdxVC.int (k := .u8) (xs := l) hBc.cells (by decide) (by omega) hcl fun a1 ha1 => ⟨_, ha1, ?_⟩
  rw [e7]
  refine Br.dec (fun h3 => id (by unfold hopS; rw [if_neg (by omega), if_neg h2, if_pos h3])) fun h3 => ?_
  refine IdxVC.int (k := .u8) (xs := l) hBc.cells (by decide) (by omega) hcl fun a2 ha2 => ⟨_, ha2, ?_⟩
  rw [e7, wu8 (by omega) (by omega)]
  have hh : hopS l = (l.set 7 (l.getD 7 0 - 1), 0) := by unfold hopS; rw [if_neg (by omega), if_neg h2, if_neg h3]
  refine IdxVC.sep H 1 rfl (by decide) (by omega) (by omega) fun a3 _ hset => hset _ _ rfl fun w2 H => ?_
  rw [hh, show (7 : Int).toNat = 7 from rfl, map_set] at *
  refine ⟨sc, rfl, bytesAt_of (s := sc) (b := w.heap.size) (H.own 1 rfl) ⟨hf.1, fun x hx => ?_⟩, by simp, H.restOf 0 rfl⟩
  rcases List.mem_or_eq_of_mem_set hx with hx | rfl
  · exact hB.bts x hx
  · omega
theorem hops_spec {l : List Int} (hB : BytesAt w s l) (hn : s.n ≤ 1048576) : Calls Tryz.prog 23 #[s.val] w fun e w' => Ext w w' ∧ e = .returned (.bool true) := by
  refine weirlaw7_hops_of s.A s.n s.k w _ ?_
  unfold weirlaw7_hops_VC
  have hl := hB.len
  refine (roomy_spec (s := s) hB (by omega)).mono ?_
  rintro _ w1 ⟨R, rfl, hRn, hRf, H⟩
  have hcap := (bytesAt_of (b := w.heap.size) (s := R) (H.own 1 rfl) hRf).cap
  refine ⟨_, _, _, rfl, by omega, by omega, ?_⟩
  rw [show (s.n : Int).toNat = l.length by omega]
  refine (hop_wide (l := l) (L := marksB 75) (n := R.n) (c := R.k) (A := R.A) (b := w.heap.size) (H.own 1 rfl) hB.bts (by omega)).mono ?_
  rintro _ w2 ⟨rfl, hm, hz, ho⟩
  have H := H.mod 1 rfl hm (fun k _ e => e) (ownB w.heap.size (.slice R.A R.n R.k) R.n ((hopS l).1 ++ marksB 75)) ho fun k hk => .inl hk
  have H : Sep [Fct.rest w None, ownB w.heap.size (.slice R.A R.n R.k) R.n ((hopS l).1 ++ marksB 75)] w2 := H
  refine ⟨_, rfl, ?_⟩
  refine (refHop_spec (hB.ext (H.restOf 0 rfl))).mono ?_
  rintro _ w3 ⟨s', rfl, hB', hlen, hE3⟩
  have H := H.ext hE3
  refine ⟨_, _, _, _, rfl, ?_⟩
  refine num7_spec.mono ?_
  rintro _ w4 ⟨hw4, rfl⟩
  subst w4
  refine ⟨_, rfl, Br.yes rfl ?_⟩
  refine (roomy_spec (s := s') hB' (by omega)).mono ?_
  rintro _ w5 ⟨R2, rfl, h2n, h2f, H2⟩
  have H := H.ext (H2.restOf 0 rfl)
  refine ⟨_, _, _, rfl, ?_⟩
  have hb2 : Bts ((hopS l).1 ++ marksB 75) := h2f.2
  refine (alike7_spec (s := R) (t := R2) (xs := (hopS l).1 ++ marksB 75) (bytesAt_of (s := R) (b := w.heap.size) (H.own 1 rfl) ⟨hRf.1, hb2⟩) (bytesAt_of (b := w3.heap.size) (H2.own 1 rfl) h2f)).mono ?_
  rintro _ w6 ⟨hw6, rfl⟩
  subst w6
  rw [decide_eq_true (show (hopS l).1 ++ marksB 75 = roomyL (hopS l).1 from rfl)]
  exact ⟨_, rfl, H.restOf 0 rfl, rfl⟩
set_option maxHeartbeats 4000000 in
theorem plays_spec {r : Op7R} (hr : Op7Ok w r) (hK : Kn w) : Calls Tryz.prog 16 #[r.v.val] w fun e w' => Ext w w' ∧ e = .returned (.bool true) := by
  obtain ⟨o, l, es, data⟩ := r
  refine weirlaw7_plays_of o w _ ?_
  unfold weirlaw7_plays_VC
  have hA : Op7At w o l es data := hr.a
  have hnb : o.b.n ≤ 1048576 := hr.nb
  have hsm : Small6 1048576 o.h es := hr.small
  have hbl := hA.b.len
  have hdl := hA.h.data.len
  have hb1 := hsm.1
  refine NewVC.sep (Sep.start0 w) fun g1 w1 H => ⟨_, H.cell 1 rfl 0 rfl, Br.dec (fun h3 => ?_) fun h3 => ?_⟩
  · refine ⟨_, _, _, H.cell 1 rfl 1 rfl, ?_⟩
    refine (hops_spec (hA.b.ext (H.restOf 0 rfl)) hnb).mono ?_
    rintro _ w2 ⟨hE2, rfl⟩
    exact ⟨_, rfl, (H.restOf 0 rfl).trans hE2, rfl⟩
  refine ⟨_, _, _, H.cell 1 rfl 1 rfl, ?_⟩
  refine (roomy_spec (s := o.b) (l := l) (hA.b.ext (H.restOf 0 rfl)) (by omega)).mono ?_
  rintro _ w3 ⟨R, rfl, hRn, hRf, H3⟩
  have H := H.ext (H3.restOf 0 rfl)
  have hR : BytesAt w3 R (roomyL l) := bytesAt_of (b := w1.heap.size) (H3.own 1 rfl) hRf
  refine ⟨_, _, _, rfl, _, _, _, H.cell 1 rfl 45 rfl, ?_⟩
  refine (roomy_spec (s := o.h.data) (l := data) (hA.h.data.ext (H.restOf 0 rfl)) (by omega)).mono ?_
  rintro _ w4 ⟨D, rfl, hDn, hDf, H4⟩
  have H := H.ext (H4.restOf 0 rfl)
  have hR := hR.ext (H4.restOf 0 rfl)
  have hD : BytesAt w4 D (roomyL data) := bytesAt_of (b := w3.heap.size) (H4.own 1 rfl) hDf
  refine ⟨_, _, _, rfl, _, _, _, H.cell 1 rfl 39 rfl, ?_⟩
  refine (laidExts_spec (s := o.h.exts) (rs := es) (hA.h.exts.ext (H.restOf 0 rfl)) hsm.2).mono ?_
  rintro _ w5 ⟨so, sw, xs, rfl, hls, hL, hE5⟩
  have H := H.ext hE5
  have hR := hR.ext hE5
  have hD := hD.ext hE5
  have hE05 := H.restOf 0 rfl
  have hg1 := H.blk 1 rfl
  have hRc := hR.cap
  have hDc := hD.cap
  refine ⟨_, _, _, _, _, _, rfl, Op7V.of o ⟨H.at 1 rfl, NewVC.sep (Sep.start0 w5) fun g2 w6 H => ?_⟩⟩
  refine Stores.sep H 1 rfl (Op7V.one _) (Nat.le_refl _) (splice_all rfl) fun w7 H => ⟨_, _, _, (hg1.ext (H.restOf 0 rfl)).cell 1, ?_⟩
  refine ⟨by omega, by omega, SetVC.sep H 1 rfl (show 1 < 47 by decide) fun w8 H => ⟨_, _, _, (hg1.ext (H.restOf 0 rfl)).cell 45, ?_⟩⟩
  refine ⟨by omega, by omega, SetVC.sep H 1 rfl (show 45 < 47 by decide) fun w9 H => SetVC.sep H 1 rfl (show 39 < 47 by decide) fun w10 H => ?_⟩
  obtain ⟨g, hg⟩ : ∃ g : Op7V, g = { o with b := ⟨R.A, o.b.n, R.k⟩, h := { o.h with data := ⟨D.A, o.h.data.n, D.k⟩, exts := so } } := ⟨_, rfl⟩
  have H : Sep [Fct.rest w5 None, Fct.blk g2 46 g.cells] w10 := by rw [hg]; exact H
  have hcb : BytesAt w5 ⟨R.A, o.b.n, R.k⟩ l := by rw [← hbl]; exact cut_front hR
  have hcd : BytesAt w5 ⟨D.A, o.h.data.n, D.k⟩ data := by rw [← hdl]; exact cut_front hD
  have hgA : Op7At w5 g l (xs.map LaidX.ext) data := by
    rw [hg]; exact ⟨hcb, hL.exts, hcd, hA.h.src, hA.h.dst⟩
  have hgd : g.h.d (xs.map LaidX.ext) data = o.h.d es data := by
    rw [ip6_key, hg]
    exact ⟨rfl, rfl, rfl, rfl, rfl, hls, rfl, rfl, rfl⟩
  have hA5 := hA.ext hE05
  refine JoinVC.of (fun st w' => st = true ∧ Sep [Fct.rest w5 None, Fct.blk g2 46 g.cells] w') ?_ ?_
  · refine ⟨_, (hg1.ext (H.restOf 0 rfl)).cell 0, ?_⟩
    refine JoinVC.of (fun _ w' => w' = w10) (Br.dec (fun _ => rfl) fun _ => Br.dec (fun _ => rfl) fun _ => rfl) ?_
    rintro b w11 hw11
    subst w11
    unfold weirlaw7_plays_J16378
    cases b with
    | true =>
      refine Br.t rfl (Op7V.of g ⟨H.at 1 rfl, ?_⟩)
      refine (ofBytes_spec (hgA.ext (H.restOf 0 rfl)) (hK.ext (hE05.trans (H.restOf 0 rfl)))).mono ?_
      rintro _ w12 ⟨hE12, rfl⟩
      exact ⟨_, rfl, rfl, H.ext hE12⟩
    | false =>
      refine Br.f rfl ?_
      refine JoinVC.of (fun _ w' => w' = w10) (Br.dec (fun _ => rfl) fun _ => Br.dec (fun _ => rfl) fun _ => Br.dec (fun _ => rfl) fun _ => rfl) ?_
      rintro b w13 hw13
      subst w13
      unfold weirlaw7_plays_J65515
      cases b with
      | true =>
        refine Br.t rfl (Op7V.of g ⟨H.at 1 rfl, ?_⟩)
        refine (ofValues_spec (hgA.ext (H.restOf 0 rfl)) (hK.ext (hE05.trans (H.restOf 0 rfl)))).mono ?_
        rintro _ w14 ⟨hE14, rfl⟩
        exact ⟨_, rfl, rfl, H.ext hE14⟩
      | false => exact Br.f rfl ⟨rfl, H⟩
  rintro _ w15 ⟨rfl, H⟩
  unfold weirlaw7_plays_J2047
  refine Br.f rfl (Ip6V.of g.h ⟨op_h (H.blk 1 rfl), Ip6V.of o.h ⟨op_h (hg1.ext (H.restOf 0 rfl)), ?_⟩⟩)
  refine (same6_spec (hgA.h.ext (H.restOf 0 rfl)) (hA5.h.ext (H.restOf 0 rfl))).mono ?_
  rintro _ w16 ⟨x, rfl, hx, hE16⟩
  have hxt := hx.2 hgd
  subst hxt
  have H := H.ext hE16
  refine ⟨_, rfl, Br.f rfl ?_⟩
  refine (whole_marks (se := so) (hL.ext (H.restOf 0 rfl))).mono ?_
  rintro _ w17 ⟨hE17, rfl⟩
  have H := H.ext hE17
  refine ⟨_, rfl, Br.f rfl ⟨_, _, _, (hg1.ext (H.restOf 0 rfl)).cell 39, ?_⟩⟩
  refine (full_spec (sw := sw) (s := o.h.exts) (hL.lists.ext (H.restOf 0 rfl)) (hA5.h.exts.ext (H.restOf 0 rfl)) hsm.2 (by rw [lists_snd, hls])).mono ?_
  rintro _ w18 ⟨hE18, rfl⟩
  have H := H.ext hE18
  refine ⟨_, rfl, Br.f rfl ⟨_, _, _, (hg1.ext (H.restOf 0 rfl)).cell 1, ?_⟩⟩
  refine (roomy_spec (s := o.b) (l := l) (hA5.b.ext (H.restOf 0 rfl)) (by omega)).mono ?_
  rintro _ w19 ⟨R2, rfl, hR2n, hR2f, H19⟩
  have H := H.ext (H19.restOf 0 rfl)
  refine ⟨_, _, _, rfl, ?_⟩
  refine (alike7_spec (s := R) (t := R2) (hR.ext (H.restOf 0 rfl)) (bytesAt_of (b := w18.heap.size) (H19.own 1 rfl) hR2f)).mono ?_
  rintro _ w20 ⟨hw20, rfl⟩
  subst w20
  rw [decide_eq_true rfl]
  refine ⟨_, rfl, Br.t rfl ⟨_, _, _, (hg1.ext (H.restOf 0 rfl)).cell 45, ?_⟩⟩
  refine (roomy_spec (s := o.h.data) (l := data) (hA5.h.data.ext (H.restOf 0 rfl)) (by omega)).mono ?_
  rintro _ w21 ⟨D2, rfl, hD2n, hD2f, H21⟩
  have H := H.ext (H21.restOf 0 rfl)
  refine ⟨_, _, _, rfl, ?_⟩
  refine (alike7_spec (s := D) (t := D2) (hD.ext (H.restOf 0 rfl)) (bytesAt_of (b := w19.heap.size) (H21.own 1 rfl) hD2f)).mono ?_
  rintro _ w22 ⟨hw22, rfl⟩
  subst w22
  rw [decide_eq_true rfl]
  exact ⟨_, rfl, hE05.trans (H.restOf 0 rfl), rfl⟩
theorem upTo_spec {rs : List Op7R} {lo hi : Int} (hO : Ops7At w s rs) (hK : Kn w) : Calls Tryz.prog 8 #[s.val, .int .i64 lo, .int .i64 hi] w fun e w' => Ext w w' ∧ e = .returned (.bool true) := by
  refine weirlaw7_upTo_of s.A s.n s.k lo hi w _ ?_
  unfold weirlaw7_upTo_VC
  have hl := hO.len
  have hs := hO.small
  refine LoopVC.of (fun st w' => ∃ i : Nat, st = (i : Int) ∧ i ≤ s.n ∧ Ext w w') (fun st _ => ((s.n : Int) - st).toNat) ⟨0, rfl, Nat.zero_le _, Mod.refl _ _⟩ ?_
  rintro _ w1 ⟨i, rfl, hi, hE1⟩
  unfold weirlaw7_upTo_L26
  have hO1 := hO.ext hE1
  refine Br.dec (fun hlt => ?_) fun hge => ⟨hE1, rfl⟩
  have hlt : i < s.n := by omega
  have hi1 : IntKind.i64.wrap ((i : Int) + 1) = ((i + 1 : Nat) : Int) := by rw [w64 (by omega) (by omega)]; omega
  refine JoinVC.of (fun _ w' => w' = w1) ?_ ?_
  · refine hO1.idx hlt fun a ha => ⟨_, c0 ha, Br.dec (fun _ => ?_) fun _ => rfl⟩
    exact hO1.idx hlt fun a1 ha1 => ⟨_, c0 ha1, rfl⟩
  rintro b w2 hw2
  subst w2
  unfold weirlaw7_upTo_J420
  rw [hi1]
  cases b with
  | false => exact Br.f rfl ⟨⟨i + 1, rfl, by omega, hE1⟩, by omega⟩
  | true =>
    refine Br.t rfl (hO1.idx hlt fun a2 ha2 => Op7V.of _ ⟨ha2, ?_⟩)
    refine (plays_spec (hO1.each _ (List.getElem_mem _)) (hK.ext hE1)).mono ?_
    rintro _ w3 ⟨hE3, rfl⟩
    exact ⟨_, rfl, Br.f rfl ⟨⟨i + 1, rfl, by omega, hE1.trans hE3⟩, by omega⟩⟩
theorem reads7_law {rs : List Op7R} (hO : Ops7At w s rs) (hK : Kn w) : Calls Tryz.prog 3 #[s.val] w fun e w' => e = .returned (.bool true) ∧ Ext w w' := by
  refine weirlaw7_Ip6Reads_of s.A s.n s.k w _ ?_
  unfold weirlaw7_Ip6Reads_VC
  refine (started7_spec hK).mono ?_
  rintro _ w1 ⟨hE1, rfl⟩
  refine ⟨_, rfl, Br.t rfl ?_⟩
  refine (upTo_spec (hO.ext hE1) (hK.ext hE1)).mono ?_
  rintro _ w2 ⟨hE2, rfl⟩
  exact ⟨_, rfl, rfl, hE1.trans hE2⟩
theorem writes7_law {rs : List Op7R} (hO : Ops7At w s rs) (hK : Kn w) : Calls Tryz.prog 4 #[s.val] w fun e w' => e = .returned (.bool true) ∧ Ext w w' := by
  refine weirlaw7_Ip6Writes_of s.A s.n s.k w _ ?_
  unfold weirlaw7_Ip6Writes_VC
  refine (started7_spec hK).mono ?_
  rintro _ w1 ⟨hE1, rfl⟩
  refine ⟨_, rfl, Br.t rfl ?_⟩
  refine (upTo_spec (hO.ext hE1) (hK.ext hE1)).mono ?_
  rintro _ w2 ⟨hE2, rfl⟩
  exact ⟨_, rfl, rfl, hE1.trans hE2⟩
theorem chains7_law {rs : List Op7R} (hO : Ops7At w s rs) (hK : Kn w) : Calls Tryz.prog 5 #[s.val] w fun e w' => e = .returned (.bool true) ∧ Ext w w' := by
  refine weirlaw7_Ip6Chains_of s.A s.n s.k w _ ?_
  unfold weirlaw7_Ip6Chains_VC
  refine (started7_spec hK).mono ?_
  rintro _ w1 ⟨hE1, rfl⟩
  refine ⟨_, rfl, Br.t rfl ?_⟩
  refine (upTo_spec (hO.ext hE1) (hK.ext hE1)).mono ?_
  rintro _ w2 ⟨hE2, rfl⟩
  exact ⟨_, rfl, rfl, hE1.trans hE2⟩
theorem plays7_law {rs : List Op7R} (hO : Ops7At w s rs) (hK : Kn w) : Calls Tryz.prog 6 #[s.val] w fun e w' => e = .returned (.bool true) ∧ Ext w w' := by
  refine weirlaw7_Ip6Plays_of s.A s.n s.k w _ ?_
  unfold weirlaw7_Ip6Plays_VC
  refine (started7_spec hK).mono ?_
  rintro _ w1 ⟨hE1, rfl⟩
  refine ⟨_, rfl, Br.t rfl ?_⟩
  refine (upTo_spec (hO.ext hE1) (hK.ext hE1)).mono ?_
  rintro _ w2 ⟨hE2, rfl⟩
  exact ⟨_, rfl, rfl, hE1.trans hE2⟩
end
end N6
end Go.Proofs.YtkiogaglmjeplaaGreatDoor
