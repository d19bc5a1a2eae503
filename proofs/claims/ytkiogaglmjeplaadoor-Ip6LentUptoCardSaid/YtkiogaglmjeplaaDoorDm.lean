/- WRITTEN BY a program of this session (vc.py): for each Go function the condition that is enough for its contract, and the theorem that it is. -/
import Derived.Test.YtkiogaglmjeplaaDoorProg
import Derived.Test.YtkiogaglmjeplaaDoorBq
import Derived.Test.YtkiogaglmjeplaaDoorDl
import Derived.Test.YtkiogaglmjeplaaDoorBe
import Derived.Test.YtkiogaglmjeplaaDoorBu
namespace Go.Proofs.YtkiogaglmjeplaaDoor
open Go.Eng
namespace N6

set_option maxRecDepth 100000 in
def weirlaw7_Outer_take_L14 (R : Ending → World → Prop) (x : Option Addr) (lA : Option Addr) (ln : Nat) (i : Int) (w4 : World) (K14 : (Int → World → Prop)) : Prop :=
  Br (decide (i < (ln : Int)))
    (DrawVC w4 fun S1 w5 =>
  NilVC x fun p2 =>
  ∃ (xA1 : Option Addr) (xn1 xc1 : Nat), (∀ w' : World, S1 w' → w'.cell? (p2.add 1) = some (.slice xA1 xn1 xc1)) ∧
  IdxVC lA ln 3 i fun a =>
  ∃ (xA2 : Option Addr) (xn2 xc2 : Nat), (∀ w' : World, S1 w' → w'.cell? (a.add 1) = some (.slice xA2 xn2 xc2)) ∧
  NewVC w5 (.cells #[.slice xA2 xn2 xc2] 52) fun g2 w6 =>
  S1 w6 ∧
  AppVC Tryd.prog #[77, 77] 77 (.slice xA1 xn1 xc1) (.slice (some ⟨g2, 0, none⟩) 1 1) w6 fun lA2 ln2 lc2 w7 =>
  S1 w7 ∧
  NilVC x fun p3 =>
  SetVC w7 (p3.add 1) (.slice lA2 ln2 lc2) fun w8 =>
  K14 (IntKind.i64.wrap (i + 1)) w8)
    (R (.returned (.tuple #[])) w4)
set_option maxRecDepth 100000 in
def weirlaw7_Outer_take_VC (x : Option Addr) (lA : Option Addr) (ln : Nat) (lc : Nat) (w : World) (R : Ending → World → Prop) : Prop :=
  NilVC x fun p =>
  ∃ (xA : Option Addr) (xn xc : Nat), w.cell? p = some (.slice xA xn xc) ∧
  NewVC w (.cells #[.slice lA ln lc] 26) fun g1 w1 =>
  AppVC Tryd.prog #[76, 76] 76 (.slice xA xn xc) (.slice (some ⟨g1, 0, none⟩) 1 1) w1 fun lA1 ln1 lc1 w2 =>
  NilVC x fun p1 =>
  SetVC w2 p1 (.slice lA1 ln1 lc1) fun w3 =>
  LoopVC (S := Int) (fun s_ w4 K14 => weirlaw7_Outer_take_L14 R x lA ln s_ w4 K14) 0 w3
def weirlaw7_Outer_take_H : Hints := [(14, [(4, .int .i64)])]
set_option maxRecDepth 100000 in
theorem weirlaw7_Outer_take_of (x : Option Addr) (lA : Option Addr) (ln : Nat) (lc : Nat) (w : World) (R : Ending → World → Prop) (hvc_ : weirlaw7_Outer_take_VC x lA ln lc w R) :
    Calls Tryd.prog 34 #[.pointer x, .slice lA ln lc] w R :=
  calls_of_wpc callOk mixedOk (H := weirlaw7_Outer_take_H) (args := [.pointer x, .slice lA ln lc]) (fn := Tryd.f34) (c := bodyOf Tryd.f34) Tryd.func34 rfl (Nat.le_of_ble_eq_true rfl)
    (Eq.mp (by kernel_rfl : weirlaw7_Outer_take_VC x lA ln lc w R = wpc Tryd.prog callF Tryd.f34.ntmps weirlaw7_Outer_take_H 1 (bodyOf Tryd.f34) (argEnv 0 [.pointer x, .slice lA ln lc]) [] w (finish Tryd.prog callF Tryd.f34.results.toList R)) hvc_)

set_option maxRecDepth 100000 in
def weirlaw7_Outer_grown_L1682 (x : Option Addr) (i : Int) (K26 : (Int → World → Prop)) (k : Int) (w2 : World) (K1682 : (Int → World → Prop)) : Prop :=
  NilVC x fun p1 =>
  ∃ (xA1 : Option Addr) (xn1 xc1 : Nat), w2.cell? p1 = some (.slice xA1 xn1 xc1) ∧
  IdxVC xA1 xn1 1 i fun a =>
  ∃ (xA2 : Option Addr) (xn2 xc2 : Nat), w2.cell? a = some (.slice xA2 xn2 xc2) ∧
  Br (decide (k < (xn2 : Int)))
    (NilVC x fun p2 =>
  ∃ (xA3 : Option Addr) (xn3 xc3 : Nat), w2.cell? p2 = some (.slice xA3 xn3 xc3) ∧
  IdxVC xA3 xn3 1 i fun a1 =>
  ∃ (xA4 : Option Addr) (xn4 xc4 : Nat), w2.cell? a1 = some (.slice xA4 xn4 xc4) ∧
  IdxVC xA4 xn4 3 k fun a2 =>
  Stores a2 0 [.int .i64 (IntKind.i64.wrap ((-1000) - i)), .slice none 0 0, .slice none 0 0] w2 fun w3 =>
  K1682 (IntKind.i64.wrap (k + 1)) w3)
    (K26 (IntKind.i64.wrap (i + 1)) w2)
set_option maxRecDepth 100000 in
def weirlaw7_Outer_grown_L3730 (x : Option Addr) (i1 : Int) (K58 : (Int → World → Prop)) (k1 : Int) (w5 : World) (K3730 : (Int → World → Prop)) : Prop :=
  NilVC x fun p4 =>
  ∃ (xA6 : Option Addr) (xn6 xc6 : Nat), w5.cell? (p4.add 1) = some (.slice xA6 xn6 xc6) ∧
  IdxVC xA6 xn6 1 i1 fun a3 =>
  ∃ (xA7 : Option Addr) (xn7 xc7 : Nat), w5.cell? a3 = some (.slice xA7 xn7 xc7) ∧
  Br (decide (k1 < (xn7 : Int)))
    (NilVC x fun p5 =>
  ∃ (xA8 : Option Addr) (xn8 xc8 : Nat), w5.cell? (p5.add 1) = some (.slice xA8 xn8 xc8) ∧
  IdxVC xA8 xn8 1 i1 fun a4 =>
  ∃ (xA9 : Option Addr) (xn9 xc9 : Nat), w5.cell? a4 = some (.slice xA9 xn9 xc9) ∧
  IdxVC xA9 xn9 2 k1 fun a5 =>
  Stores a5 0 [.int .i64 (IntKind.i64.wrap ((-1000) - i1)), .slice none 0 0] w5 fun w6 =>
  K3730 (IntKind.i64.wrap (k1 + 1)) w6)
    (K58 (IntKind.i64.wrap (i1 + 1)) w5)
set_option maxRecDepth 100000 in
def weirlaw7_Outer_grown_L64074 (g1 : Nat) (i2 : Int) (K250 : (Int → World → Prop)) (gA : Option Addr) (gn : Nat) (gc : Nat) (k2 : Int) (w9 : World) (K64074 : ((Option Addr × Nat × Nat) × Int → World → Prop)) : Prop :=
  Br (decide (k2 < 70))
    (NewVC w9 (.cells #[.int .i64 (IntKind.i64.wrap ((-1000) - i2)), .slice none 0 0, .slice none 0 0] 54) fun g2 w10 =>
  AppVC Tryd.prog #[26, 26] 26 (.slice gA gn gc) (.slice (some ⟨g2, 0, none⟩) 1 1) w10 fun lA ln lc w11 =>
  K64074 ((lA, ln, lc), IntKind.i64.wrap (k2 + 1)) w11)
    (NilVC (some ⟨g1, 0, none⟩) fun p8 =>
  ∃ (xA13 : Option Addr) (xn13 xc13 : Nat), w9.cell? p8 = some (.slice xA13 xn13 xc13) ∧
  NewVC w9 (.cells #[.slice gA gn gc] 26) fun g3 w12 =>
  AppVC Tryd.prog #[76, 76] 76 (.slice xA13 xn13 xc13) (.slice (some ⟨g3, 0, none⟩) 1 1) w12 fun lA1 ln1 lc1 w13 =>
  NilVC (some ⟨g1, 0, none⟩) fun p9 =>
  SetVC w13 p9 (.slice lA1 ln1 lc1) fun w14 =>
  K250 (IntKind.i64.wrap (i2 + 1)) w14)
set_option maxRecDepth 100000 in
def weirlaw7_Outer_grown_L129610 (g1 : Nat) (i3 : Int) (K506 : (Int → World → Prop)) (gA1 : Option Addr) (gn1 : Nat) (gc1 : Nat) (k3 : Int) (w16 : World) (K129610 : ((Option Addr × Nat × Nat) × Int → World → Prop)) : Prop :=
  Br (decide (k3 < 70))
    (NewVC w16 (.cells #[.int .i64 (IntKind.i64.wrap ((-1000) - i3)), .slice none 0 0] 65) fun g4 w17 =>
  AppVC Tryd.prog #[52, 52] 52 (.slice gA1 gn1 gc1) (.slice (some ⟨g4, 0, none⟩) 1 1) w17 fun lA2 ln2 lc2 w18 =>
  K129610 ((lA2, ln2, lc2), IntKind.i64.wrap (k3 + 1)) w18)
    (NilVC (some ⟨g1, 0, none⟩) fun p12 =>
  ∃ (xA17 : Option Addr) (xn17 xc17 : Nat), w16.cell? (p12.add 1) = some (.slice xA17 xn17 xc17) ∧
  NewVC w16 (.cells #[.slice gA1 gn1 gc1] 52) fun g5 w19 =>
  AppVC Tryd.prog #[77, 77] 77 (.slice xA17 xn17 xc17) (.slice (some ⟨g5, 0, none⟩) 1 1) w19 fun lA3 ln3 lc3 w20 =>
  NilVC (some ⟨g1, 0, none⟩) fun p13 =>
  SetVC w20 (p13.add 1) (.slice lA3 ln3 lc3) fun w21 =>
  K506 (IntKind.i64.wrap (i3 + 1)) w21)
set_option maxRecDepth 100000 in
def weirlaw7_Outer_grown_L506 (R : Ending → World → Prop) (x : Option Addr) (g1 : Nat) (i3 : Int) (w15 : World) (K506 : (Int → World → Prop)) : Prop :=
  NilVC x fun p10 =>
  ∃ (xA14 : Option Addr) (xn14 xc14 : Nat), w15.cell? (p10.add 1) = some (.slice xA14 xn14 xc14) ∧
  Br (decide (i3 < (xn14 : Int)))
    (NilVC x fun p11 =>
  ∃ (xA15 : Option Addr) (xn15 xc15 : Nat), w15.cell? (p11.add 1) = some (.slice xA15 xn15 xc15) ∧
  IdxVC xA15 xn15 1 i3 fun a7 =>
  ∃ (xA16 : Option Addr) (xn16 xc16 : Nat), w15.cell? a7 = some (.slice xA16 xn16 xc16) ∧
  LoopVC (S := (Option Addr × Nat × Nat) × Int) (fun s_ w16 K129610 => weirlaw7_Outer_grown_L129610 g1 i3 K506 s_.1.1 s_.1.2.1 s_.1.2.2 s_.2 w16 K129610) ((xA16, xn16, xc16), 0) w15)
    (R (.returned (.pointer (some ⟨g1, 0, none⟩))) w15)
set_option maxRecDepth 100000 in
def weirlaw7_Outer_grown_L250 (R : Ending → World → Prop) (x : Option Addr) (g1 : Nat) (i2 : Int) (w8 : World) (K250 : (Int → World → Prop)) : Prop :=
  NilVC x fun p6 =>
  ∃ (xA10 : Option Addr) (xn10 xc10 : Nat), w8.cell? p6 = some (.slice xA10 xn10 xc10) ∧
  Br (decide (i2 < (xn10 : Int)))
    (NilVC x fun p7 =>
  ∃ (xA11 : Option Addr) (xn11 xc11 : Nat), w8.cell? p7 = some (.slice xA11 xn11 xc11) ∧
  IdxVC xA11 xn11 1 i2 fun a6 =>
  ∃ (xA12 : Option Addr) (xn12 xc12 : Nat), w8.cell? a6 = some (.slice xA12 xn12 xc12) ∧
  LoopVC (S := (Option Addr × Nat × Nat) × Int) (fun s_ w9 K64074 => weirlaw7_Outer_grown_L64074 g1 i2 K250 s_.1.1 s_.1.2.1 s_.1.2.2 s_.2 w9 K64074) ((xA12, xn12, xc12), 0) w8)
    (LoopVC (S := Int) (fun s_ w15 K506 => weirlaw7_Outer_grown_L506 R x g1 s_ w15 K506) 0 w8)
set_option maxRecDepth 100000 in
def weirlaw7_Outer_grown_L58 (R : Ending → World → Prop) (x : Option Addr) (i1 : Int) (w4 : World) (K58 : (Int → World → Prop)) : Prop :=
  NilVC x fun p3 =>
  ∃ (xA5 : Option Addr) (xn5 xc5 : Nat), w4.cell? (p3.add 1) = some (.slice xA5 xn5 xc5) ∧
  Br (decide (i1 < (xn5 : Int)))
    (LoopVC (S := Int) (fun s_ w5 K3730 => weirlaw7_Outer_grown_L3730 x i1 K58 s_ w5 K3730) 0 w4)
    (NewVC w4 (.cells #[.slice none 0 0, .slice none 0 0] 79) fun g1 w7 =>
  LoopVC (S := Int) (fun s_ w8 K250 => weirlaw7_Outer_grown_L250 R x g1 s_ w8 K250) 0 w7)
set_option maxRecDepth 100000 in
def weirlaw7_Outer_grown_L26 (R : Ending → World → Prop) (x : Option Addr) (i : Int) (w1 : World) (K26 : (Int → World → Prop)) : Prop :=
  NilVC x fun p =>
  ∃ (xA : Option Addr) (xn xc : Nat), w1.cell? p = some (.slice xA xn xc) ∧
  Br (decide (i < (xn : Int)))
    (LoopVC (S := Int) (fun s_ w2 K1682 => weirlaw7_Outer_grown_L1682 x i K26 s_ w2 K1682) 0 w1)
    (LoopVC (S := Int) (fun s_ w4 K58 => weirlaw7_Outer_grown_L58 R x s_ w4 K58) 0 w1)
set_option maxRecDepth 100000 in
def weirlaw7_Outer_grown_VC (x : Option Addr) (w : World) (R : Ending → World → Prop) : Prop :=
  LoopVC (S := Int) (fun s_ w1 K26 => weirlaw7_Outer_grown_L26 R x s_ w1 K26) 0 w
def weirlaw7_Outer_grown_H : Hints := [(26, [(3, .int .i64)]), (1682, [(4, .int .i64)]), (58, [(5, .int .i64)]), (3730, [(6, .int .i64)]), (250, [(8, .int .i64)]), (64074, [(9, .slice), (10, .int .i64)]), (506, [(11, .int .i64)]), (129610, [(12, .slice), (13, .int .i64)])]
set_option maxRecDepth 100000 in
theorem weirlaw7_Outer_grown_of (x : Option Addr) (w : World) (R : Ending → World → Prop) (hvc_ : weirlaw7_Outer_grown_VC x w R) :
    Calls Tryd.prog 35 #[.pointer x] w R :=
  calls_of_wpc callOk mixedOk (H := weirlaw7_Outer_grown_H) (args := [.pointer x]) (fn := Tryd.f35) (c := bodyOf Tryd.f35) Tryd.func35 rfl (Nat.le_of_ble_eq_true rfl)
    (Eq.mp (by kernel_rfl : weirlaw7_Outer_grown_VC x w R = wpc Tryd.prog callF Tryd.f35.ntmps weirlaw7_Outer_grown_H 1 (bodyOf Tryd.f35) (argEnv 0 [.pointer x]) [] w (finish Tryd.prog callF Tryd.f35.results.toList R)) hvc_)

set_option maxRecDepth 100000 in
def weirlaw7_Outer_holds_L1682 (R : Ending → World → Prop) (x : Option Addr) (i : Int) (K26 : (Int → World → Prop)) (k : Int) (w2 : World) (K1682 : (Int → World → Prop)) : Prop :=
  NilVC x fun p1 =>
  ∃ (xA1 : Option Addr) (xn1 xc1 : Nat), w2.cell? p1 = some (.slice xA1 xn1 xc1) ∧
  IdxVC xA1 xn1 1 i fun a =>
  ∃ (xA2 : Option Addr) (xn2 xc2 : Nat), w2.cell? a = some (.slice xA2 xn2 xc2) ∧
  Br (decide (k < (xn2 : Int)))
    (NilVC x fun p2 =>
  ∃ (xA3 : Option Addr) (xn3 xc3 : Nat), w2.cell? p2 = some (.slice xA3 xn3 xc3) ∧
  IdxVC xA3 xn3 1 i fun a1 =>
  ∃ (xA4 : Option Addr) (xn4 xc4 : Nat), w2.cell? a1 = some (.slice xA4 xn4 xc4) ∧
  IdxVC xA4 xn4 3 k fun a2 =>
  ∃ x1 : Int, w2.cell? a2 = some (.int .i64 x1) ∧
  Br (decide (x1 ≠ IntKind.i64.wrap ((-1000) - i)))
    (R (.returned (.bool false)) w2)
    (NilVC x fun p3 =>
    ∃ (xA5 : Option Addr) (xn5 xc5 : Nat), w2.cell? p3 = some (.slice xA5 xn5 xc5) ∧
    IdxVC xA5 xn5 1 i fun a3 =>
    ∃ (xA6 : Option Addr) (xn6 xc6 : Nat), w2.cell? a3 = some (.slice xA6 xn6 xc6) ∧
    IdxVC xA6 xn6 3 k fun a4 =>
    ∃ (xA7 : Option Addr) (xn7 xc7 : Nat), w2.cell? (a4.add 1) = some (.slice xA7 xn7 xc7) ∧
    Br (decide ((0 : Int) < (xn7 : Int)))
    (R (.returned (.bool false)) w2)
    (K1682 (IntKind.i64.wrap (k + 1)) w2)))
    (K26 (IntKind.i64.wrap (i + 1)) w2)
set_option maxRecDepth 100000 in
def weirlaw7_Outer_holds_L3730 (R : Ending → World → Prop) (x : Option Addr) (i1 : Int) (K58 : (Int → World → Prop)) (k1 : Int) (w4 : World) (K3730 : (Int → World → Prop)) : Prop :=
  NilVC x fun p5 =>
  ∃ (xA9 : Option Addr) (xn9 xc9 : Nat), w4.cell? (p5.add 1) = some (.slice xA9 xn9 xc9) ∧
  IdxVC xA9 xn9 1 i1 fun a5 =>
  ∃ (xA10 : Option Addr) (xn10 xc10 : Nat), w4.cell? a5 = some (.slice xA10 xn10 xc10) ∧
  Br (decide (k1 < (xn10 : Int)))
    (NilVC x fun p6 =>
  ∃ (xA11 : Option Addr) (xn11 xc11 : Nat), w4.cell? (p6.add 1) = some (.slice xA11 xn11 xc11) ∧
  IdxVC xA11 xn11 1 i1 fun a6 =>
  ∃ (xA12 : Option Addr) (xn12 xc12 : Nat), w4.cell? a6 = some (.slice xA12 xn12 xc12) ∧
  IdxVC xA12 xn12 2 k1 fun a7 =>
  ∃ x2 : Int, w4.cell? a7 = some (.int .i64 x2) ∧
  Br (decide (x2 ≠ IntKind.i64.wrap ((-1000) - i1)))
    (R (.returned (.bool false)) w4)
    (NilVC x fun p7 =>
    ∃ (xA13 : Option Addr) (xn13 xc13 : Nat), w4.cell? (p7.add 1) = some (.slice xA13 xn13 xc13) ∧
    IdxVC xA13 xn13 1 i1 fun a8 =>
    ∃ (xA14 : Option Addr) (xn14 xc14 : Nat), w4.cell? a8 = some (.slice xA14 xn14 xc14) ∧
    IdxVC xA14 xn14 2 k1 fun a9 =>
    ∃ (xA15 : Option Addr) (xn15 xc15 : Nat), w4.cell? (a9.add 1) = some (.slice xA15 xn15 xc15) ∧
    Br (decide ((0 : Int) < (xn15 : Int)))
    (R (.returned (.bool false)) w4)
    (K3730 (IntKind.i64.wrap (k1 + 1)) w4)))
    (K58 (IntKind.i64.wrap (i1 + 1)) w4)
set_option maxRecDepth 100000 in
def weirlaw7_Outer_holds_L58 (R : Ending → World → Prop) (x : Option Addr) (i1 : Int) (w3 : World) (K58 : (Int → World → Prop)) : Prop :=
  NilVC x fun p4 =>
  ∃ (xA8 : Option Addr) (xn8 xc8 : Nat), w3.cell? (p4.add 1) = some (.slice xA8 xn8 xc8) ∧
  Br (decide (i1 < (xn8 : Int)))
    (LoopVC (S := Int) (fun s_ w4 K3730 => weirlaw7_Outer_holds_L3730 R x i1 K58 s_ w4 K3730) 0 w3)
    (R (.returned (.bool true)) w3)
set_option maxRecDepth 100000 in
def weirlaw7_Outer_holds_L26 (R : Ending → World → Prop) (x : Option Addr) (i : Int) (w1 : World) (K26 : (Int → World → Prop)) : Prop :=
  NilVC x fun p =>
  ∃ (xA : Option Addr) (xn xc : Nat), w1.cell? p = some (.slice xA xn xc) ∧
  Br (decide (i < (xn : Int)))
    (LoopVC (S := Int) (fun s_ w2 K1682 => weirlaw7_Outer_holds_L1682 R x i K26 s_ w2 K1682) 0 w1)
    (LoopVC (S := Int) (fun s_ w3 K58 => weirlaw7_Outer_holds_L58 R x s_ w3 K58) 0 w1)
set_option maxRecDepth 100000 in
def weirlaw7_Outer_holds_VC (x : Option Addr) (w : World) (R : Ending → World → Prop) : Prop :=
  LoopVC (S := Int) (fun s_ w1 K26 => weirlaw7_Outer_holds_L26 R x s_ w1 K26) 0 w
def weirlaw7_Outer_holds_H : Hints := [(26, [(3, .int .i64)]), (1682, [(4, .int .i64)]), (58, [(5, .int .i64)]), (3730, [(6, .int .i64)])]
set_option maxRecDepth 100000 in
theorem weirlaw7_Outer_holds_of (x : Option Addr) (w : World) (R : Ending → World → Prop) (hvc_ : weirlaw7_Outer_holds_VC x w R) :
    Calls Tryd.prog 36 #[.pointer x] w R :=
  calls_of_wpc callOk mixedOk (H := weirlaw7_Outer_holds_H) (args := [.pointer x]) (fn := Tryd.f36) (c := bodyOf Tryd.f36) Tryd.func36 rfl (Nat.le_of_ble_eq_true rfl)
    (Eq.mp (by kernel_rfl : weirlaw7_Outer_holds_VC x w R = wpc Tryd.prog callF Tryd.f36.ntmps weirlaw7_Outer_holds_H 1 (bodyOf Tryd.f36) (argEnv 0 [.pointer x]) [] w (finish Tryd.prog callF Tryd.f36.results.toList R)) hvc_)

set_option maxRecDepth 100000 in
def weirlaw7_wrote_VC (h : Ip6V) (lA : Option Addr) (ln : Nat) (lc : Nat) (w : World) (R : Ending → World → Prop) : Prop :=
  NewVC w (.cells h.cells.toArray 30) fun g1 w1 =>
  Ip6V.ex fun h1 => CellsAt w1 ⟨g1, 0, none⟩ 0 h1.cells ∧
  Calls Tryd.prog 19 #[h1.val] w1 (onRet (fun r_ w2 => ∃ (x0A : Option Addr) (x0n x0c : Nat), ∃ x1 : Int, r_ = .tuple #[.slice x0A x0n x0c, .int .i64 x1] ∧
  Ip6V.ex fun h2 => CellsAt w2 ⟨g1, 0, none⟩ 0 h2.cells ∧
  Calls Tryd.prog 33 #[h2.val] w2 (onRet (fun r_1 w3 => ∃ (x0A1 : Option Addr) (x0n1 x0c1 : Nat), ∃ x11 : Int, r_1 = .tuple #[.slice x0A1 x0n1 x0c1, .int .i64 x11] ∧
  ∃ (xA : Option Addr) (xn xc : Nat), w3.cell? ⟨g1, 37, none⟩ = some (.slice xA xn xc) ∧
  ∃ x : Int, w3.cell? ⟨g1, 42, none⟩ = some (.int .i64 x) ∧
  Calls Tryd.prog 25 #[.slice xA xn xc, .int .i64 x] w3 (onRet (fun r_2 w4 => ∃ (x0A2 : Option Addr) (x0n2 x0c2 : Nat), ∃ x12 : Int, r_2 = .tuple #[.slice x0A2 x0n2 x0c2, .int .i64 x12] ∧
  ∃ (xA1 : Option Addr) (xn1 xc1 : Nat), w4.cell? ⟨g1, 37, none⟩ = some (.slice xA1 xn1 xc1) ∧
  ∃ x2 : Int, w4.cell? ⟨g1, 42, none⟩ = some (.int .i64 x2) ∧
  Calls Tryd.prog 59 #[.slice xA1 xn1 xc1, .int .i64 x2] w4 (onRet (fun r_3 w5 => ∃ (x0A3 : Option Addr) (x0n3 x0c3 : Nat), ∃ x13 : Int, r_3 = .tuple #[.slice x0A3 x0n3 x0c3, .int .i64 x13] ∧
  NewVC w5 (.cells #[.slice x0A x0n x0c, .slice x0A2 x0n2 x0c2] 22) fun g2 w6 =>
  AppVC Tryd.prog #[60, 60] 60 (.slice lA ln lc) (.slice (some ⟨g2, 0, none⟩) 2 2) w6 fun lA1 ln1 lc1 w7 =>
  Calls Tryd.prog 17 #[.int .i64 x1] w7 (onRet (fun r_4 w8 => ∃ x3 : Int, r_4 = .int .i64 x3 ∧
  Br (decide (x3 = x11))
    (Calls Tryd.prog 17 #[.int .i64 x12] w8 (onRet (fun r_5 w9 => ∃ x4 : Int, r_5 = .int .i64 x4 ∧
    Br (decide (x4 = x13))
      (Calls Tryd.prog 20 #[.slice x0A x0n x0c, .slice x0A1 x0n1 x0c1] w9 (onRet (fun r_6 w10 => ∃ x5 : Bool, r_6 = .bool x5 ∧
      Br x5
        (Calls Tryd.prog 20 #[.slice x0A2 x0n2 x0c2, .slice x0A3 x0n3 x0c3] w10 (onRet (fun r_7 w11 => ∃ x6 : Bool, r_7 = .bool x6 ∧
        R (.returned (.tuple #[.slice lA1 ln1 lc1, .bool x6])) w11)
          (fun ch7 w11 => R (.panicked ch7) w11)))
        (R (.returned (.tuple #[.slice lA1 ln1 lc1, .bool false])) w10))
        (fun ch6 w10 => R (.panicked ch6) w10)))
      (R (.returned (.tuple #[.slice lA1 ln1 lc1, .bool false])) w9))
      (fun ch5 w9 => R (.panicked ch5) w9)))
    (R (.returned (.tuple #[.slice lA1 ln1 lc1, .bool false])) w8))
    (fun ch4 w8 => R (.panicked ch4) w8)))
    (fun ch3 w5 => R (.panicked ch3) w5)))
    (fun ch2 w4 => R (.panicked ch2) w4)))
    (fun ch1 w3 => R (.panicked ch1) w3)))
    (fun ch w2 => R (.panicked ch) w2))
def weirlaw7_wrote_H : Hints := []
set_option maxRecDepth 100000 in
theorem weirlaw7_wrote_of (h : Ip6V) (lA : Option Addr) (ln : Nat) (lc : Nat) (w : World) (R : Ending → World → Prop) (hvc_ : weirlaw7_wrote_VC h lA ln lc w R) :
    Calls Tryd.prog 32 #[h.val, .slice lA ln lc] w R :=
  calls_of_wpc callOk mixedOk (H := weirlaw7_wrote_H) (args := [h.val, .slice lA ln lc]) (fn := Tryd.f32) (c := bodyOf Tryd.f32) Tryd.func32 rfl (Nat.le_of_ble_eq_true rfl)
    (Eq.mp (by kernel_rfl : weirlaw7_wrote_VC h lA ln lc w R = wpc Tryd.prog callF Tryd.f32.ntmps weirlaw7_wrote_H 1 (bodyOf Tryd.f32) (argEnv 0 [h.val, .slice lA ln lc]) [] w (finish Tryd.prog callF Tryd.f32.results.toList R)) hvc_)

set_option maxRecDepth 100000 in
def weirlaw7_Ip6Lent_L4194298 (R : Ending → World → Prop) (bA : Option Addr) (bn : Nat) (bc : Nat) (cA : Option Addr) (cn : Nat) (cc : Nat) (g1 : Nat) (g2 : Nat) (g3 : Nat) (g4 : Nat) (lA : Option Addr) (ln : Nat) (lc : Nat) (lA1 : Option Addr) (ln1 : Nat) (lc1 : Nat) (g8 : Nat) (g10 : Nat) (lA4 : Option Addr) (ln4 : Nat) (lc4 : Nat) (psA : Option Addr) (psn : Nat) (g17 : Nat) (i2 : Int) (w44 : World) (K4194298 : (Int → World → Prop)) : Prop :=
  Br (decide (i2 < (psn : Int)))
    (IdxVC psA psn 44 i2 fun a9 =>
  ∃ (xA2 : Option Addr) (xn2 xc2 : Nat), w44.cell? (a9.add 37) = some (.slice xA2 xn2 xc2) ∧
  Calls Tryd.prog 34 #[.pointer (some ⟨g17, 0, none⟩), .slice xA2 xn2 xc2] w44 (onRet (fun r_9 w45 => r_9 = .tuple #[] ∧
  K4194298 (IntKind.i64.wrap (i2 + 1)) w45)
    (fun ch9 w45 => R (.panicked ch9) w45)))
    (Calls Tryd.prog 30 #[.slice lA4 ln4 lc4] w44 (onRet (fun r_10 w46 => ∃ (xA3 : Option Addr) (xn3 xc3 : Nat), r_10 = .slice xA3 xn3 xc3 ∧
  Calls Tryd.prog 35 #[.pointer (some ⟨g17, 0, none⟩)] w46 (onRet (fun r_11 w47 => ∃ x7 : Option Addr, r_11 = .pointer x7 ∧
  Calls Tryd.prog 31 #[.slice lA4 ln4 lc4, .slice xA3 xn3 xc3] w47 (onRet (fun r_12 w48 => ∃ x8 : Bool, r_12 = .bool x8 ∧
  Br (!x8)
    (R (.returned (.bool false)) w48)
    (Calls Tryd.prog 36 #[.pointer (some ⟨g17, 0, none⟩)] w48 (onRet (fun r_13 w49 => ∃ x9 : Bool, r_13 = .bool x9 ∧
    Br (!x9)
      (R (.returned (.bool false)) w49)
      (Calls Tryd.prog 36 #[.pointer x7] w49 (onRet (fun r_14 w50 => ∃ x10 : Bool, r_14 = .bool x10 ∧
      Br (!x10)
    (R (.returned (.bool false)) w50)
    (Ip6V.ex fun h17 => CellsAt w50 ⟨g3, 0, none⟩ 0 h17.cells ∧
  Calls Tryd.prog 32 #[h17.val, .slice none 0 0] w50 (onRet (fun r_15 w51 => ∃ (x0A2 : Option Addr) (x0n2 x0c2 : Nat), ∃ x15 : Bool, r_15 = .tuple #[.slice x0A2 x0n2 x0c2, .bool x15] ∧
  Ip6V.ex fun h18 => CellsAt w51 ⟨g4, 0, none⟩ 0 h18.cells ∧
  Calls Tryd.prog 32 #[h18.val, .slice none 0 0] w51 (onRet (fun r_16 w52 => ∃ (x0A3 : Option Addr) (x0n3 x0c3 : Nat), ∃ x16 : Bool, r_16 = .tuple #[.slice x0A3 x0n3 x0c3, .bool x16] ∧
  Calls Tryd.prog 13 #[.slice lA ln lc] w52 (onRet (fun r_17 w53 => Ip6V.ex fun h19 => ∃ x17 : Int, r_17 = .tuple #[h19.val, .int .i64 x17] ∧
  NewVC w53 (.cells (Ip6V.z : Ip6V).cells.toArray 30) fun g18 w54 =>
  Stores ⟨g18, 0, none⟩ 0 h19.cells w54 fun w55 =>
  Calls Tryd.prog 13 #[.slice lA1 ln1 lc1] w55 (onRet (fun r_18 w56 => Ip6V.ex fun h20 => ∃ x18 : Int, r_18 = .tuple #[h20.val, .int .i64 x18] ∧
  NewVC w56 (.cells (Ip6V.z : Ip6V).cells.toArray 30) fun g19 w57 =>
  Stores ⟨g19, 0, none⟩ 0 h20.cells w57 fun w58 =>
  Br (!x15)
    (R (.returned (.bool false)) w58)
    (Br (!x16)
      (R (.returned (.bool false)) w58)
      (Ip6V.ex fun h21 => CellsAt w58 ⟨g18, 0, none⟩ 0 h21.cells ∧
      Ip6V.ex fun h22 => CellsAt w58 ⟨g8, 0, none⟩ 0 h22.cells ∧
      Calls Tryd.prog 18 #[h21.val, h22.val] w58 (onRet (fun r_19 w59 => ∃ x19 : Bool, r_19 = .bool x19 ∧
      Br (!x19)
        (R (.returned (.bool false)) w59)
        (Ip6V.ex fun h23 => CellsAt w59 ⟨g19, 0, none⟩ 0 h23.cells ∧
        Ip6V.ex fun h24 => CellsAt w59 ⟨g10, 0, none⟩ 0 h24.cells ∧
        Calls Tryd.prog 18 #[h23.val, h24.val] w59 (onRet (fun r_20 w60 => ∃ x20 : Bool, r_20 = .bool x20 ∧
        Br (!x20)
          (R (.returned (.bool false)) w60)
          (Ip6V.ex fun h25 => CellsAt w60 ⟨g3, 0, none⟩ 0 h25.cells ∧
          Ip6V.ex fun h26 => CellsAt w60 ⟨g1, 0, none⟩ 0 h26.cells ∧
          Calls Tryd.prog 18 #[h25.val, h26.val] w60 (onRet (fun r_21 w61 => ∃ x21 : Bool, r_21 = .bool x21 ∧
          Br (!x21)
            (R (.returned (.bool false)) w61)
            (Ip6V.ex fun h27 => CellsAt w61 ⟨g4, 0, none⟩ 0 h27.cells ∧
            Ip6V.ex fun h28 => CellsAt w61 ⟨g2, 0, none⟩ 0 h28.cells ∧
            Calls Tryd.prog 18 #[h27.val, h28.val] w61 (onRet (fun r_22 w62 => ∃ x22 : Bool, r_22 = .bool x22 ∧
            Br (!x22)
    (R (.returned (.bool false)) w62)
    (Calls Tryd.prog 16 #[] w62 (onRet (fun r_23 w63 => ∃ x23 : Bool, r_23 = .bool x23 ∧
  Br x23
    (Calls Tryd.prog 31 #[.slice lA4 ln4 lc4, .slice xA3 xn3 xc3] w63 (onRet (fun r_24 w64 => ∃ x24 : Bool, r_24 = .bool x24 ∧
    Br x24
      (Calls Tryd.prog 36 #[.pointer (some ⟨g17, 0, none⟩)] w64 (onRet (fun r_25 w65 => ∃ x25 : Bool, r_25 = .bool x25 ∧
      Br x25
        (Calls Tryd.prog 36 #[.pointer x7] w65 (onRet (fun r_26 w66 => ∃ x26 : Bool, r_26 = .bool x26 ∧
        Br x26
          (Calls Tryd.prog 20 #[.slice lA ln lc, .slice bA bn bc] w66 (onRet (fun r_27 w67 => ∃ x27 : Bool, r_27 = .bool x27 ∧
          Br x27
            (Calls Tryd.prog 20 #[.slice lA1 ln1 lc1, .slice cA cn cc] w67 (onRet (fun r_28 w68 => ∃ x28 : Bool, r_28 = .bool x28 ∧
            R (.returned (.bool x28)) w68)
              (fun ch28 w68 => R (.panicked ch28) w68)))
            (R (.returned (.bool false)) w67))
            (fun ch27 w67 => R (.panicked ch27) w67)))
          (R (.returned (.bool false)) w66))
          (fun ch26 w66 => R (.panicked ch26) w66)))
        (R (.returned (.bool false)) w65))
        (fun ch25 w65 => R (.panicked ch25) w65)))
      (R (.returned (.bool false)) w64))
      (fun ch24 w64 => R (.panicked ch24) w64)))
    (R (.returned (.bool false)) w63))
    (fun ch23 w63 => R (.panicked ch23) w63))))
              (fun ch22 w62 => R (.panicked ch22) w62))))
            (fun ch21 w61 => R (.panicked ch21) w61))))
          (fun ch20 w60 => R (.panicked ch20) w60))))
        (fun ch19 w59 => R (.panicked ch19) w59)))))
    (fun ch18 w56 => R (.panicked ch18) w56)))
    (fun ch17 w53 => R (.panicked ch17) w53)))
    (fun ch16 w52 => R (.panicked ch16) w52)))
    (fun ch15 w51 => R (.panicked ch15) w51))))
        (fun ch14 w50 => R (.panicked ch14) w50))))
      (fun ch13 w49 => R (.panicked ch13) w49))))
    (fun ch12 w48 => R (.panicked ch12) w48)))
    (fun ch11 w47 => R (.panicked ch11) w47)))
    (fun ch10 w46 => R (.panicked ch10) w46)))
set_option maxRecDepth 100000 in
def weirlaw7_Ip6Lent_L1048570 (R : Ending → World → Prop) (bA : Option Addr) (bn : Nat) (bc : Nat) (cA : Option Addr) (cn : Nat) (cc : Nat) (g1 : Nat) (g2 : Nat) (g3 : Nat) (g4 : Nat) (lA : Option Addr) (ln : Nat) (lc : Nat) (lA1 : Option Addr) (ln1 : Nat) (lc1 : Nat) (g8 : Nat) (g10 : Nat) (g13 : Nat) (g14 : Nat) (lA4 : Option Addr) (ln4 : Nat) (lc4 : Nat) (psA : Option Addr) (psn : Nat) (x0A1 : Option Addr) (x0n1 : Nat) (x0c1 : Nat) (i1 : Int) (w39 : World) (K1048570 : (Int → World → Prop)) : Prop :=
  Br (decide (i1 < 6))
    (DrawVC w39 fun S1 w40 =>
  IdxVC psA psn 44 i1 fun a4 =>
  Ip6V.ex fun h15 => (∀ w' : World, S1 w' → CellsAt w' a4 0 h15.cells) ∧
  IdxVC (some ⟨g14, 0, none⟩) 6 1 i1 fun a5 =>
  ∃ x3 : Int, (∀ w' : World, S1 w' → w'.cell? a5 = some (.int .i64 x3)) ∧
  IdxVC (some ⟨g13, 0, none⟩) 2 44 x3 fun a6 =>
  Ip6V.ex fun h16 => (∀ w' : World, S1 w' → CellsAt w' a6 0 h16.cells) ∧
  Calls Tryd.prog 18 #[h15.val, h16.val] w40 (onRet (fun r_7 w41 => ∃ x4 : Bool, r_7 = .bool x4 ∧
  S1 w41 ∧
  Br (!x4)
    (R (.returned (.bool false)) w41)
    (IdxVC (some ⟨g14, 0, none⟩) 6 1 i1 fun a7 =>
    ∃ x5 : Int, (∀ w' : World, S1 w' → w'.cell? a7 = some (.int .i64 x5)) ∧
    Br (decide (x5 = 0))
      (IdxVC lA4 ln4 1 (IntKind.i64.wrap (2 * i1)) fun a8 =>
      ∃ (xA1 : Option Addr) (xn1 xc1 : Nat), (∀ w' : World, S1 w' → w'.cell? a8 = some (.slice xA1 xn1 xc1)) ∧
      Calls Tryd.prog 20 #[.slice xA1 xn1 xc1, .slice x0A1 x0n1 x0c1] w41 (onRet (fun r_8 w42 => ∃ x6 : Bool, r_8 = .bool x6 ∧
      S1 w42 ∧
      Br (!x6)
    (R (.returned (.bool false)) w42)
    (K1048570 (IntKind.i64.wrap (i1 + 1)) w42))
        (fun _ _ => False)))
      (K1048570 (IntKind.i64.wrap (i1 + 1)) w41)))
    (fun _ _ => False)))
    (NewVC w39 (.cells #[.slice none 0 0, .slice none 0 0] 79) fun g17 w43 =>
  LoopVC (S := Int) (fun s_ w44 K4194298 => weirlaw7_Ip6Lent_L4194298 R bA bn bc cA cn cc g1 g2 g3 g4 lA ln lc lA1 ln1 lc1 g8 g10 lA4 ln4 lc4 psA psn g17 s_ w44 K4194298) 0 w43)
set_option maxRecDepth 100000 in
def weirlaw7_Ip6Lent_L262138 (R : Ending → World → Prop) (bA : Option Addr) (bn : Nat) (bc : Nat) (cA : Option Addr) (cn : Nat) (cc : Nat) (g1 : Nat) (g2 : Nat) (g3 : Nat) (g4 : Nat) (lA : Option Addr) (ln : Nat) (lc : Nat) (lA1 : Option Addr) (ln1 : Nat) (lc1 : Nat) (g8 : Nat) (g10 : Nat) (g11 : Nat) (g12 : Nat) (g13 : Nat) (g14 : Nat) (lA4 : Option Addr) (ln4 : Nat) (lc4 : Nat) (psA : Option Addr) (psn : Nat) (psc : Nat) (i : Int) (w31 : World) (K262138 : ((Option Addr × Nat × Nat) × (Option Addr × Nat × Nat) × Int → World → Prop)) : Prop :=
  Br (decide (i < 6))
    (IdxVC (some ⟨g14, 0, none⟩) 6 1 i fun a =>
  ∃ x : Int, w31.cell? a = some (.int .i64 x) ∧
  IdxVC (some ⟨g11, 0, none⟩) 2 44 x fun a1 =>
  Ip6V.ex fun h11 => CellsAt w31 a1 0 h11.cells ∧
  Calls Tryd.prog 32 #[h11.val, .slice lA4 ln4 lc4] w31 (onRet (fun r_4 w32 => ∃ (x0A : Option Addr) (x0n x0c : Nat), ∃ x12 : Bool, r_4 = .tuple #[.slice x0A x0n x0c, .bool x12] ∧
  Br (!x12)
    (R (.returned (.bool false)) w32)
    (Br (decide ((x0n : Int) ≠ IntKind.i64.wrap (IntKind.i64.wrap (2 * i) + 2)))
    (R (.returned (.bool false)) w32)
    (IdxVC (some ⟨g14, 0, none⟩) 6 1 i fun a2 =>
  ∃ x2 : Int, w32.cell? a2 = some (.int .i64 x2) ∧
  IdxVC (some ⟨g12, 0, none⟩) 2 1 x2 fun a3 =>
  ∃ (xA : Option Addr) (xn xc : Nat), w32.cell? a3 = some (.slice xA xn xc) ∧
  Calls Tryd.prog 13 #[.slice xA xn xc] w32 (onRet (fun r_5 w33 => Ip6V.ex fun h12 => ∃ x13 : Int, r_5 = .tuple #[h12.val, .int .i64 x13] ∧
  NewVC w33 (.cells (Ip6V.z : Ip6V).cells.toArray 30) fun g15 w34 =>
  Stores ⟨g15, 0, none⟩ 0 h12.cells w34 fun w35 =>
  Ip6V.ex fun h13 => CellsAt w35 ⟨g15, 0, none⟩ 0 h13.cells ∧
  NewVC w35 (.cells h13.cells.toArray 30) fun g16 w36 =>
  AppVC Tryd.prog #[67, 67] 67 (.slice psA psn psc) (.slice (some ⟨g16, 0, none⟩) 1 1) w36 fun lA5 ln5 lc5 w37 =>
  K262138 ((x0A, x0n, x0c), (lA5, ln5, lc5), IntKind.i64.wrap (i + 1)) w37)
    (fun ch5 w33 => R (.panicked ch5) w33)))))
    (fun ch4 w32 => R (.panicked ch4) w32)))
    (Ip6V.ex fun h14 => CellsAt w31 ⟨g1, 0, none⟩ 0 h14.cells ∧
  Calls Tryd.prog 33 #[h14.val] w31 (onRet (fun r_6 w38 => ∃ (x0A1 : Option Addr) (x0n1 x0c1 : Nat), ∃ x14 : Int, r_6 = .tuple #[.slice x0A1 x0n1 x0c1, .int .i64 x14] ∧
  LoopVC (S := Int) (fun s_ w39 K1048570 => weirlaw7_Ip6Lent_L1048570 R bA bn bc cA cn cc g1 g2 g3 g4 lA ln lc lA1 ln1 lc1 g8 g10 g13 g14 lA4 ln4 lc4 psA psn x0A1 x0n1 x0c1 s_ w39 K1048570) 0 w38)
    (fun ch6 w38 => R (.panicked ch6) w38)))
set_option maxRecDepth 100000 in
def weirlaw7_Ip6Lent_VC (h : Ip6V) (g : Ip6V) (bA : Option Addr) (bn : Nat) (bc : Nat) (cA : Option Addr) (cn : Nat) (cc : Nat) (w : World) (R : Ending → World → Prop) : Prop :=
  NewVC w (.cells h.cells.toArray 30) fun g1 w1 =>
  NewVC w1 (.cells g.cells.toArray 30) fun g2 w2 =>
  Ip6V.ex fun h1 => CellsAt w2 ⟨g1, 0, none⟩ 0 h1.cells ∧
  Calls Tryd.prog 28 #[h1.val] w2 (onRet (fun r_ w3 => Ip6V.ex fun h2 => r_ = h2.val ∧
  NewVC w3 (.cells (Ip6V.z : Ip6V).cells.toArray 30) fun g3 w4 =>
  Stores ⟨g3, 0, none⟩ 0 h2.cells w4 fun w5 =>
  Ip6V.ex fun h3 => CellsAt w5 ⟨g2, 0, none⟩ 0 h3.cells ∧
  Calls Tryd.prog 28 #[h3.val] w5 (onRet (fun r_1 w6 => Ip6V.ex fun h4 => r_1 = h4.val ∧
  NewVC w6 (.cells (Ip6V.z : Ip6V).cells.toArray 30) fun g4 w7 =>
  Stores ⟨g4, 0, none⟩ 0 h4.cells w7 fun w8 =>
  NewVC w8 (.cells #[] 5) fun g5 w9 =>
  AppVC Tryd.prog #[22, 22] 22 (.slice (some ⟨g5, 0, none⟩) 0 0) (.slice bA bn bc) w9 fun lA ln lc w10 =>
  NewVC w10 (.cells #[] 5) fun g6 w11 =>
  AppVC Tryd.prog #[22, 22] 22 (.slice (some ⟨g6, 0, none⟩) 0 0) (.slice cA cn cc) w11 fun lA1 ln1 lc1 w12 =>
  NewVC w12 (.cells #[] 5) fun g7 w13 =>
  AppVC Tryd.prog #[22, 22] 22 (.slice (some ⟨g7, 0, none⟩) 0 0) (.slice bA bn bc) w13 fun lA2 ln2 lc2 w14 =>
  Calls Tryd.prog 14 #[.slice lA2 ln2 lc2] w14 (onRet (fun r_2 w15 => Ip6V.ex fun h5 => ∃ x1 : Int, r_2 = .tuple #[h5.val, .int .i64 x1] ∧
  NewVC w15 (.cells (Ip6V.z : Ip6V).cells.toArray 30) fun g8 w16 =>
  Stores ⟨g8, 0, none⟩ 0 h5.cells w16 fun w17 =>
  NewVC w17 (.cells #[] 5) fun g9 w18 =>
  AppVC Tryd.prog #[22, 22] 22 (.slice (some ⟨g9, 0, none⟩) 0 0) (.slice cA cn cc) w18 fun lA3 ln3 lc3 w19 =>
  Calls Tryd.prog 14 #[.slice lA3 ln3 lc3] w19 (onRet (fun r_3 w20 => Ip6V.ex fun h6 => ∃ x11 : Int, r_3 = .tuple #[h6.val, .int .i64 x11] ∧
  NewVC w20 (.cells (Ip6V.z : Ip6V).cells.toArray 30) fun g10 w21 =>
  Stores ⟨g10, 0, none⟩ 0 h6.cells w21 fun w22 =>
  Ip6V.ex fun h7 => CellsAt w22 ⟨g3, 0, none⟩ 0 h7.cells ∧
  Ip6V.ex fun h8 => CellsAt w22 ⟨g4, 0, none⟩ 0 h8.cells ∧
  NewVC w22 (.cells #[.int .i64 0, .int .i64 0, .int .i64 0, .int .i64 0, .int .u8 0, .int .u8 0, .int .u8 0, .int .u8 0, .int .u8 0, .int .u8 0, .int .u8 0, .int .u8 0, .int .u8 0, .int .u8 0, .int .u8 0, .int .u8 0, .int .u8 0, .int .u8 0, .int .u8 0, .int .u8 0, .int .i64 0, .int .u8 0, .int .u8 0, .int .u8 0, .int .u8 0, .int .u8 0, .int .u8 0, .int .u8 0, .int .u8 0, .int .u8 0, .int .u8 0, .int .u8 0, .int .u8 0, .int .u8 0, .int .u8 0, .int .u8 0, .int .u8 0, .slice none 0 0, .bool false, .bool false, .int .i64 0, .int .i64 0, .int .i64 0, .slice none 0 0, .int .i64 0, .int .i64 0, .int .i64 0, .int .i64 0, .int .u8 0, .int .u8 0, .int .u8 0, .int .u8 0, .int .u8 0, .int .u8 0, .int .u8 0, .int .u8 0, .int .u8 0, .int .u8 0, .int .u8 0, .int .u8 0, .int .u8 0, .int .u8 0, .int .u8 0, .int .u8 0, .int .i64 0, .int .u8 0, .int .u8 0, .int .u8 0, .int .u8 0, .int .u8 0, .int .u8 0, .int .u8 0, .int .u8 0, .int .u8 0, .int .u8 0, .int .u8 0, .int .u8 0, .int .u8 0, .int .u8 0, .int .u8 0, .int .u8 0, .slice none 0 0, .bool false, .bool false, .int .i64 0, .int .i64 0, .int .i64 0, .slice none 0 0] 68) fun g11 w23 =>
  Stores ⟨g11, 0, none⟩ 0 [.int .i64 h7.cls, .int .i64 h7.flow, .int .i64 h7.hop, .int .i64 h7.src.v, .int .u8 h7.src.a0, .int .u8 h7.src.a1, .int .u8 h7.src.a2, .int .u8 h7.src.a3, .int .u8 h7.src.a4, .int .u8 h7.src.a5, .int .u8 h7.src.a6, .int .u8 h7.src.a7, .int .u8 h7.src.a8, .int .u8 h7.src.a9, .int .u8 h7.src.a10, .int .u8 h7.src.a11, .int .u8 h7.src.a12, .int .u8 h7.src.a13, .int .u8 h7.src.a14, .int .u8 h7.src.a15, .int .i64 h7.dst.v, .int .u8 h7.dst.a0, .int .u8 h7.dst.a1, .int .u8 h7.dst.a2, .int .u8 h7.dst.a3, .int .u8 h7.dst.a4, .int .u8 h7.dst.a5, .int .u8 h7.dst.a6, .int .u8 h7.dst.a7, .int .u8 h7.dst.a8, .int .u8 h7.dst.a9, .int .u8 h7.dst.a10, .int .u8 h7.dst.a11, .int .u8 h7.dst.a12, .int .u8 h7.dst.a13, .int .u8 h7.dst.a14, .int .u8 h7.dst.a15, .slice h7.exts.A h7.exts.n h7.exts.k, .bool h7.frag.has, .bool h7.frag.more, .int .i64 h7.frag.id, .int .i64 h7.frag.off, .int .i64 h7.next, .slice h7.data.A h7.data.n h7.data.k, .int .i64 h8.cls, .int .i64 h8.flow, .int .i64 h8.hop, .int .i64 h8.src.v, .int .u8 h8.src.a0, .int .u8 h8.src.a1, .int .u8 h8.src.a2, .int .u8 h8.src.a3, .int .u8 h8.src.a4, .int .u8 h8.src.a5, .int .u8 h8.src.a6, .int .u8 h8.src.a7, .int .u8 h8.src.a8, .int .u8 h8.src.a9, .int .u8 h8.src.a10, .int .u8 h8.src.a11, .int .u8 h8.src.a12, .int .u8 h8.src.a13, .int .u8 h8.src.a14, .int .u8 h8.src.a15, .int .i64 h8.dst.v, .int .u8 h8.dst.a0, .int .u8 h8.dst.a1, .int .u8 h8.dst.a2, .int .u8 h8.dst.a3, .int .u8 h8.dst.a4, .int .u8 h8.dst.a5, .int .u8 h8.dst.a6, .int .u8 h8.dst.a7, .int .u8 h8.dst.a8, .int .u8 h8.dst.a9, .int .u8 h8.dst.a10, .int .u8 h8.dst.a11, .int .u8 h8.dst.a12, .int .u8 h8.dst.a13, .int .u8 h8.dst.a14, .int .u8 h8.dst.a15, .slice h8.exts.A h8.exts.n h8.exts.k, .bool h8.frag.has, .bool h8.frag.more, .int .i64 h8.frag.id, .int .i64 h8.frag.off, .int .i64 h8.next, .slice h8.data.A h8.data.n h8.data.k] w23 fun w24 =>
  NewVC w24 (.cells #[.slice none 0 0, .slice none 0 0] 69) fun g12 w25 =>
  Stores ⟨g12, 0, none⟩ 0 [.slice lA ln lc, .slice lA1 ln1 lc1] w25 fun w26 =>
  Ip6V.ex fun h9 => CellsAt w26 ⟨g8, 0, none⟩ 0 h9.cells ∧
  Ip6V.ex fun h10 => CellsAt w26 ⟨g10, 0, none⟩ 0 h10.cells ∧
  NewVC w26 (.cells #[.int .i64 0, .int .i64 0, .int .i64 0, .int .i64 0, .int .u8 0, .int .u8 0, .int .u8 0, .int .u8 0, .int .u8 0, .int .u8 0, .int .u8 0, .int .u8 0, .int .u8 0, .int .u8 0, .int .u8 0, .int .u8 0, .int .u8 0, .int .u8 0, .int .u8 0, .int .u8 0, .int .i64 0, .int .u8 0, .int .u8 0, .int .u8 0, .int .u8 0, .int .u8 0, .int .u8 0, .int .u8 0, .int .u8 0, .int .u8 0, .int .u8 0, .int .u8 0, .int .u8 0, .int .u8 0, .int .u8 0, .int .u8 0, .int .u8 0, .slice none 0 0, .bool false, .bool false, .int .i64 0, .int .i64 0, .int .i64 0, .slice none 0 0, .int .i64 0, .int .i64 0, .int .i64 0, .int .i64 0, .int .u8 0, .int .u8 0, .int .u8 0, .int .u8 0, .int .u8 0, .int .u8 0, .int .u8 0, .int .u8 0, .int .u8 0, .int .u8 0, .int .u8 0, .int .u8 0, .int .u8 0, .int .u8 0, .int .u8 0, .int .u8 0, .int .i64 0, .int .u8 0, .int .u8 0, .int .u8 0, .int .u8 0, .int .u8 0, .int .u8 0, .int .u8 0, .int .u8 0, .int .u8 0, .int .u8 0, .int .u8 0, .int .u8 0, .int .u8 0, .int .u8 0, .int .u8 0, .int .u8 0, .slice none 0 0, .bool false, .bool false, .int .i64 0, .int .i64 0, .int .i64 0, .slice none 0 0] 68) fun g13 w27 =>
  Stores ⟨g13, 0, none⟩ 0 [.int .i64 h9.cls, .int .i64 h9.flow, .int .i64 h9.hop, .int .i64 h9.src.v, .int .u8 h9.src.a0, .int .u8 h9.src.a1, .int .u8 h9.src.a2, .int .u8 h9.src.a3, .int .u8 h9.src.a4, .int .u8 h9.src.a5, .int .u8 h9.src.a6, .int .u8 h9.src.a7, .int .u8 h9.src.a8, .int .u8 h9.src.a9, .int .u8 h9.src.a10, .int .u8 h9.src.a11, .int .u8 h9.src.a12, .int .u8 h9.src.a13, .int .u8 h9.src.a14, .int .u8 h9.src.a15, .int .i64 h9.dst.v, .int .u8 h9.dst.a0, .int .u8 h9.dst.a1, .int .u8 h9.dst.a2, .int .u8 h9.dst.a3, .int .u8 h9.dst.a4, .int .u8 h9.dst.a5, .int .u8 h9.dst.a6, .int .u8 h9.dst.a7, .int .u8 h9.dst.a8, .int .u8 h9.dst.a9, .int .u8 h9.dst.a10, .int .u8 h9.dst.a11, .int .u8 h9.dst.a12, .int .u8 h9.dst.a13, .int .u8 h9.dst.a14, .int .u8 h9.dst.a15, .slice h9.exts.A h9.exts.n h9.exts.k, .bool h9.frag.has, .bool h9.frag.more, .int .i64 h9.frag.id, .int .i64 h9.frag.off, .int .i64 h9.next, .slice h9.data.A h9.data.n h9.data.k, .int .i64 h10.cls, .int .i64 h10.flow, .int .i64 h10.hop, .int .i64 h10.src.v, .int .u8 h10.src.a0, .int .u8 h10.src.a1, .int .u8 h10.src.a2, .int .u8 h10.src.a3, .int .u8 h10.src.a4, .int .u8 h10.src.a5, .int .u8 h10.src.a6, .int .u8 h10.src.a7, .int .u8 h10.src.a8, .int .u8 h10.src.a9, .int .u8 h10.src.a10, .int .u8 h10.src.a11, .int .u8 h10.src.a12, .int .u8 h10.src.a13, .int .u8 h10.src.a14, .int .u8 h10.src.a15, .int .i64 h10.dst.v, .int .u8 h10.dst.a0, .int .u8 h10.dst.a1, .int .u8 h10.dst.a2, .int .u8 h10.dst.a3, .int .u8 h10.dst.a4, .int .u8 h10.dst.a5, .int .u8 h10.dst.a6, .int .u8 h10.dst.a7, .int .u8 h10.dst.a8, .int .u8 h10.dst.a9, .int .u8 h10.dst.a10, .int .u8 h10.dst.a11, .int .u8 h10.dst.a12, .int .u8 h10.dst.a13, .int .u8 h10.dst.a14, .int .u8 h10.dst.a15, .slice h10.exts.A h10.exts.n h10.exts.k, .bool h10.frag.has, .bool h10.frag.more, .int .i64 h10.frag.id, .int .i64 h10.frag.off, .int .i64 h10.next, .slice h10.data.A h10.data.n h10.data.k] w27 fun w28 =>
  NewVC w28 (.cells #[.int .i64 0, .int .i64 0, .int .i64 0, .int .i64 0, .int .i64 0, .int .i64 0] 70) fun g14 w29 =>
  Stores ⟨g14, 0, none⟩ 0 [.int .i64 0, .int .i64 0, .int .i64 1, .int .i64 1, .int .i64 0, .int .i64 1] w29 fun w30 =>
  LoopVC (S := (Option Addr × Nat × Nat) × (Option Addr × Nat × Nat) × Int) (fun s_ w31 K262138 => weirlaw7_Ip6Lent_L262138 R bA bn bc cA cn cc g1 g2 g3 g4 lA ln lc lA1 ln1 lc1 g8 g10 g11 g12 g13 g14 s_.1.1 s_.1.2.1 s_.1.2.2 s_.2.1.1 s_.2.1.2.1 s_.2.1.2.2 s_.2.2 w31 K262138) ((none, 0, 0), (none, 0, 0), 0) w30)
    (fun ch3 w20 => R (.panicked ch3) w20)))
    (fun ch2 w15 => R (.panicked ch2) w15)))
    (fun ch1 w6 => R (.panicked ch1) w6)))
    (fun ch w3 => R (.panicked ch) w3))
def weirlaw7_Ip6Lent_H : Hints := [(262138, [(17, .slice), (18, .slice), (24, .int .i64)]), (1048570, [(29, .int .i64)]), (4194298, [(31, .int .i64)])]
set_option maxRecDepth 100000 in
theorem weirlaw7_Ip6Lent_of (h : Ip6V) (g : Ip6V) (bA : Option Addr) (bn : Nat) (bc : Nat) (cA : Option Addr) (cn : Nat) (cc : Nat) (w : World) (R : Ending → World → Prop) (hvc_ : weirlaw7_Ip6Lent_VC h g bA bn bc cA cn cc w R) :
    Calls Tryd.prog 8 #[h.val, g.val, .slice bA bn bc, .slice cA cn cc] w R :=
  calls_of_wpc callOk mixedOk (H := weirlaw7_Ip6Lent_H) (args := [h.val, g.val, .slice bA bn bc, .slice cA cn cc]) (fn := Tryd.f8) (c := bodyOf Tryd.f8) Tryd.func8 rfl (Nat.le_of_ble_eq_true rfl)
    (Eq.mp (by kernel_rfl : weirlaw7_Ip6Lent_VC h g bA bn bc cA cn cc w R = wpc Tryd.prog callF Tryd.f8.ntmps weirlaw7_Ip6Lent_H 1 (bodyOf Tryd.f8) (argEnv 0 [h.val, g.val, .slice bA bn bc, .slice cA cn cc]) [] w (finish Tryd.prog callF Tryd.f8.results.toList R)) hvc_)
end N6
end Go.Proofs.YtkiogaglmjeplaaDoor
/- Lists of lists that were handed out: written full, each with a mark of its own, then lengthened by seventy; that they hold. -/
namespace Go.Eng
open Go Go.RowKit
def mkE7 (i : Nat) : List Value := [.int .i64 (-1000 - (i : Int)), .slice none 0 0, .slice none 0 0]
def mkO7 (i : Nat) : List Value := [.int .i64 (-1000 - (i : Int)), .slice none 0 0]
theorem mkE7_one (i : Nat) : ∀ v ∈ mkE7 i, v.oneCell' = true := by simp [mkE7, Value.oneCell']
theorem mkO7_one (i : Nat) : ∀ v ∈ mkO7 i, v.oneCell' = true := by simp [mkO7, Value.oneCell']
/-- What lists stand on, once each is lengthened by T. -/
def StoodG (mk tl : Nat → List Value) (T : Nat) (rows gs : List GR) (D : List Fct) (n : Nat) : Prop :=
  ∀ w2, (∀ f ∈ D, f.φ w2) → ∀ (j : Nat) (r : GR), j < n → rows[j]? = some r → Cells w2 r.A (reps r.n (mk j)) ∧ ∃ g : GR, gs[j]? = some g ∧ g.n = r.n + T ∧ Cells w2 g.A (reps r.n (mk j) ++ reps T (tl j))
theorem stood_y {w : World} {mk : Nat → List Value} {r0 gs : List GR} {D : List Fct} {n : Nat} (st : StoodG mk mk 70 r0 gs D n) (hD : ∀ f ∈ D, f.φ w) (hl : r0.length = n) (hg : gs.length = n) (hm : ∀ r ∈ r0, r.n ≤ 4000001) :
    (∀ g ∈ gs, g.n ≤ 4000100) ∧ ∀ (j : Nat) (g : GR), gs[j]? = some g → Cells w g.A (reps g.n (mk j)) := by
  have key : ∀ (j : Nat) (g : GR), gs[j]? = some g → g.n ≤ 4000100 ∧ Cells w g.A (reps g.n (mk j)) := fun j g hj => by
    have hlt := (List.getElem?_eq_some_iff.1 hj).1
    obtain ⟨r, hr⟩ : ∃ r, r0[j]? = some r := ⟨_, List.getElem?_eq_getElem (by omega)⟩
    obtain ⟨_, g', hg', hn, hc⟩ := st w hD j r (by omega) hr
    rw [hj] at hg'
    injection hg' with hg'
    subst hg'
    have := hm r (List.mem_of_getElem? hr)
    refine ⟨by omega, ?_⟩
    rw [hn, reps_add]; exact hc
  exact ⟨fun g hm' => by obtain ⟨j, hj⟩ := List.getElem?_of_mem hm'; exact (key j g hj).1, fun j g hj => (key j g hj).2⟩
end Go.Eng
namespace Go.Proofs.YtkiogaglmjeplaaDoor
namespace N6
open Go.Eng Go.RowKit
theorem cells_get {w' : World} {a : Addr} {cs : List Value} (hc : CellsAt w' a 0 cs) (j : Nat) {v : Value} (hv : cs[j]? = some v) : w'.cell? (a.add j) = some v := by
  have := cellsAt_get hc j v hv
  rwa [Nat.zero_add] at this
theorem tE7s : TypeIs Tryd.prog 26 (.slice none 0 0) 1 24 := .of (by kernel_rfl)
theorem tO7s : TypeIs Tryd.prog 52 (.slice none 0 0) 1 24 := .of (by kernel_rfl)
section
variable {w w0 : World} {Γ0 : List Fct} {b ln lc gx : Nat} {lA : Option Addr} {rows : List GR}
set_option maxHeartbeats 8000000 in
theorem Outer_grown_fill0 (H : Sep (Γ0 ++ rows.map (rawR b 54 3)) w) (hx : ∀ w', (∀ f ∈ Γ0, f.φ w') → w'.cell? ⟨gx, 0, none⟩ = some (.slice lA ln lc) ∧ Cells w' lA (rows.map GR.val))
    (hlen : rows.length = ln) (hsm : ln ≤ 1000000) (hn : ∀ r ∈ rows, r.n ≤ 4000001) {R : Ending → World → Prop} (hK : ∀ w', Sep (Γ0 ++ mapI (fullR b 54 3 mkE7) 0 rows) w' → LoopVC (S := Int) (fun s_ w1 K => weirlaw7_Outer_grown_L58 R (some ⟨gx, 0, none⟩) s_ w1 K) 0 w') :
    LoopVC (S := Int) (fun s_ w1 K => weirlaw7_Outer_grown_L26 R (some ⟨gx, 0, none⟩) s_ w1 K) 0 w := by
  have hin : ∀ {i : Nat} {r : GR}, rows[i]? = some r → r.n ≤ 4000001 := fun h => hn _ (List.mem_of_getElem? h)
  have hget : ∀ i, i < ln → ∃ r, rows[i]? = some r := fun i hi => ⟨_, List.getElem?_eq_getElem (by omega)⟩
  refine LoopVC.of (fun st w' => ∃ i : Nat, st = (i : Int) ∧ i ≤ ln ∧ Sep (Γ0 ++ (mapI (fullR b 54 3 mkE7) 0 (rows.take i) ++ (rows.drop i).map (rawR b 54 3))) w') (fun st _ => ((ln : Int) - st).toNat)
    ⟨0, rfl, Nat.zero_le _, H⟩ ?_
  rintro _ w1 ⟨i, rfl, hi, H⟩
  show weirlaw7_Outer_grown_L26 _ _ (i : Int) w1 _
  unfold weirlaw7_Outer_grown_L26
  refine ⟨⟨gx, 0, none⟩, rfl, _, _, _, (hx w1 fun f hf => H.mem (List.mem_append_left _ hf)).1, Br.dec (fun hlt => ?_) fun hge => ?_⟩
  · obtain ⟨r, hr⟩ := hget i (by omega)
    have hrn := hin hr
    have hmk : IntKind.i64.wrap ((-1000) - (i : Int)) = -1000 - (i : Int) := w64 (by omega) (by omega)
    have e1 : IntKind.i64.wrap ((i : Int) + 1) = ((i + 1 : Nat) : Int) := by rw [w64 (by omega) (by omega)]; omega
    rw [drop_consA hr, List.map_cons] at H
    obtain ⟨D, hD⟩ : ∃ D, D = mapI (fullR b 54 3 mkE7) 0 (rows.take i) := ⟨_, rfl⟩
    obtain ⟨T, hT⟩ : ∃ T, T = (rows.drop (i + 1)).map (rawR b 54 3) := ⟨_, rfl⟩
    rw [← hD, ← hT] at H
    have H := H.focus
    refine LoopVC.of (fun st w' => ∃ (k : Nat) (zs : List Value), st = (k : Int) ∧ k ≤ r.n ∧ zs.length = (r.n - k) * 3 ∧ Sep (Fct.row b 54 3 r.A r.c r.n (reps k (mkE7 i) ++ zs) :: (Γ0 ++ (D ++ T))) w') (fun st _ => ((r.n : Int) - st).toNat)
      ⟨0, r.xs, rfl, Nat.zero_le _, by have := (H.row 0 rfl).1; omega, H⟩ ?_
    rintro _ w2 ⟨k, zs, rfl, hk, hzl, H⟩
    show weirlaw7_Outer_grown_L1682 _ (i : Int) _ (k : Int) w2 _
    unfold weirlaw7_Outer_grown_L1682
    have hx2 := hx w2 fun f hf => H.mem (List.mem_cons_of_mem _ (List.mem_append_left _ hf))
    refine ⟨⟨gx, 0, none⟩, rfl, _, _, _, hx2.1, ?_⟩
    refine idx_rows hx2.2 hr hlen fun a ha => ⟨_, _, _, ha, Br.dec (fun hk1 => ?_) fun hk1 => ?_⟩
    · refine ⟨⟨gx, 0, none⟩, rfl, _, _, _, hx2.1, ?_⟩
      refine idx_rows hx2.2 hr hlen fun a ha => ⟨_, _, _, ha, ?_⟩
      rw [hmk]
      have e2 : IntKind.i64.wrap ((k : Int) + 1) = ((k + 1 : Nat) : Int) := by rw [w64 (by omega) (by omega)]; omega
      refine IdxVC.rowSep H 0 rfl (by omega) (by omega) (by decide) fun a ha => ha (mkE7 i) _ rfl (mkE7_one i) fun w3 H3 => ?_
      refine ⟨⟨k + 1, zs.drop 3, e2, by omega, by rw [List.length_drop]; omega, ?_⟩, by rw [e2]; omega⟩
      have e3 : splice (reps k (mkE7 i) ++ zs) (k * 3) (mkE7 i) = reps (k + 1) (mkE7 i) ++ zs.drop 3 := by
        have e4 : k * 3 = (reps k (mkE7 i)).length := by rw [reps_len]; rfl
        rw [e4, splice_front, reps_add, reps_one]; rfl
      rw [← e3]; exact H3
    · have hkn : k = r.n := by omega
      have hz0 : zs = [] := List.eq_nil_of_length_eq_zero (by rw [hzl, hkn]; simp)
      subst hz0
      subst hkn
      refine ⟨⟨i + 1, e1, by omega, ?_⟩, by rw [e1]; omega⟩
      rw [List.append_nil] at H
      rw [take_snocA hr, mapI_snoc, ← hD, ← hT]
      have hli : 0 + (rows.take i).length = i := by rw [List.length_take]; omega
      rw [hli]
      exact H.perm (perm_unfocus (Z := []))
  · have hin' : i = ln := by omega
    subst hin'
    rw [List.take_of_length_le (by omega), List.drop_of_length_le (by omega), List.map_nil, List.append_nil] at H
    exact hK w1 H
set_option maxHeartbeats 8000000 in
theorem Outer_grown_fill1 (H : Sep (Γ0 ++ rows.map (rawR b 65 2)) w) (hx : ∀ w', (∀ f ∈ Γ0, f.φ w') → w'.cell? ((⟨gx, 0, none⟩ : Addr).add 1) = some (.slice lA ln lc) ∧ Cells w' lA (rows.map GR.val))
    (hlen : rows.length = ln) (hsm : ln ≤ 1000000) (hn : ∀ r ∈ rows, r.n ≤ 4000001) {R : Ending → World → Prop} (hK : ∀ w', Sep (Γ0 ++ mapI (fullR b 65 2 mkO7) 0 rows) w' → NewVC w' (.cells #[.slice none 0 0, .slice none 0 0] 79) fun g1 w1 => LoopVC (S := Int) (fun s_ w2 K => weirlaw7_Outer_grown_L250 R (some ⟨gx, 0, none⟩) g1 s_ w2 K) 0 w1) :
    LoopVC (S := Int) (fun s_ w1 K => weirlaw7_Outer_grown_L58 R (some ⟨gx, 0, none⟩) s_ w1 K) 0 w := by
  have hin : ∀ {i : Nat} {r : GR}, rows[i]? = some r → r.n ≤ 4000001 := fun h => hn _ (List.mem_of_getElem? h)
  have hget : ∀ i, i < ln → ∃ r, rows[i]? = some r := fun i hi => ⟨_, List.getElem?_eq_getElem (by omega)⟩
  refine LoopVC.of (fun st w' => ∃ i : Nat, st = (i : Int) ∧ i ≤ ln ∧ Sep (Γ0 ++ (mapI (fullR b 65 2 mkO7) 0 (rows.take i) ++ (rows.drop i).map (rawR b 65 2))) w') (fun st _ => ((ln : Int) - st).toNat)
    ⟨0, rfl, Nat.zero_le _, H⟩ ?_
  rintro _ w1 ⟨i, rfl, hi, H⟩
  show weirlaw7_Outer_grown_L58 _ _ (i : Int) w1 _
  unfold weirlaw7_Outer_grown_L58
  refine ⟨⟨gx, 0, none⟩, rfl, _, _, _, (hx w1 fun f hf => H.mem (List.mem_append_left _ hf)).1, Br.dec (fun hlt => ?_) fun hge => ?_⟩
  · obtain ⟨r, hr⟩ := hget i (by omega)
    have hrn := hin hr
    have hmk : IntKind.i64.wrap ((-1000) - (i : Int)) = -1000 - (i : Int) := w64 (by omega) (by omega)
    have e1 : IntKind.i64.wrap ((i : Int) + 1) = ((i + 1 : Nat) : Int) := by rw [w64 (by omega) (by omega)]; omega
    rw [drop_consA hr, List.map_cons] at H
    obtain ⟨D, hD⟩ : ∃ D, D = mapI (fullR b 65 2 mkO7) 0 (rows.take i) := ⟨_, rfl⟩
    obtain ⟨T, hT⟩ : ∃ T, T = (rows.drop (i + 1)).map (rawR b 65 2) := ⟨_, rfl⟩
    rw [← hD, ← hT] at H
    have H := H.focus
    refine LoopVC.of (fun st w' => ∃ (k : Nat) (zs : List Value), st = (k : Int) ∧ k ≤ r.n ∧ zs.length = (r.n - k) * 2 ∧ Sep (Fct.row b 65 2 r.A r.c r.n (reps k (mkO7 i) ++ zs) :: (Γ0 ++ (D ++ T))) w') (fun st _ => ((r.n : Int) - st).toNat)
      ⟨0, r.xs, rfl, Nat.zero_le _, by have := (H.row 0 rfl).1; omega, H⟩ ?_
    rintro _ w2 ⟨k, zs, rfl, hk, hzl, H⟩
    show weirlaw7_Outer_grown_L3730 _ (i : Int) _ (k : Int) w2 _
    unfold weirlaw7_Outer_grown_L3730
    have hx2 := hx w2 fun f hf => H.mem (List.mem_cons_of_mem _ (List.mem_append_left _ hf))
    refine ⟨⟨gx, 0, none⟩, rfl, _, _, _, hx2.1, ?_⟩
    refine idx_rows hx2.2 hr hlen fun a ha => ⟨_, _, _, ha, Br.dec (fun hk1 => ?_) fun hk1 => ?_⟩
    · refine ⟨⟨gx, 0, none⟩, rfl, _, _, _, hx2.1, ?_⟩
      refine idx_rows hx2.2 hr hlen fun a ha => ⟨_, _, _, ha, ?_⟩
      rw [hmk]
      have e2 : IntKind.i64.wrap ((k : Int) + 1) = ((k + 1 : Nat) : Int) := by rw [w64 (by omega) (by omega)]; omega
      refine IdxVC.rowSep H 0 rfl (by omega) (by omega) (by decide) fun a ha => ha (mkO7 i) _ rfl (mkO7_one i) fun w3 H3 => ?_
      refine ⟨⟨k + 1, zs.drop 2, e2, by omega, by rw [List.length_drop]; omega, ?_⟩, by rw [e2]; omega⟩
      have e3 : splice (reps k (mkO7 i) ++ zs) (k * 2) (mkO7 i) = reps (k + 1) (mkO7 i) ++ zs.drop 2 := by
        have e4 : k * 2 = (reps k (mkO7 i)).length := by rw [reps_len]; rfl
        rw [e4, splice_front, reps_add, reps_one]; rfl
      rw [← e3]; exact H3
    · have hkn : k = r.n := by omega
      have hz0 : zs = [] := List.eq_nil_of_length_eq_zero (by rw [hzl, hkn]; simp)
      subst hz0
      subst hkn
      refine ⟨⟨i + 1, e1, by omega, ?_⟩, by rw [e1]; omega⟩
      rw [List.append_nil] at H
      rw [take_snocA hr, mapI_snoc, ← hD, ← hT]
      have hli : 0 + (rows.take i).length = i := by rw [List.length_take]; omega
      rw [hli]
      exact H.perm (perm_unfocus (Z := []))
  · have hin' : i = ln := by omega
    subst hin'
    rw [List.take_of_length_le (by omega), List.drop_of_length_le (by omega), List.map_nil, List.append_nil] at H
    exact hK w1 H
set_option maxHeartbeats 8000000 in
theorem Outer_grown_more0 {z : Value} {gy : Nat} (H : Sep (Fct.blk gy 79 [.slice none 0 0, z] :: (Γ0 ++ mapI (fullR b 54 3 mkE7) 0 rows)) w) (h0 : Γ0[0]? = some (Fct.rest w0 None)) (hb : b ≤ w0.heap.size)
    (hx : ∀ w', (∀ f ∈ Γ0, f.φ w') → w'.cell? ⟨gx, 0, none⟩ = some (.slice lA ln lc) ∧ Cells w' lA (rows.map GR.val))
    (hlen : rows.length = ln) (hsm : ln ≤ 1000000) (hn : ∀ r ∈ rows, r.n ≤ 4000001) {R : Ending → World → Prop}
    (hK : ∀ w' LA Lc D gs, gs.length = ln → StoodG mkE7 mkE7 70 rows gs D ln → Sep (Fct.own b 26 1 (.slice LA ln Lc) ln (gs.map GR.val) :: Fct.blk gy 79 [.slice LA ln Lc, z] :: (Γ0 ++ D)) w' → LoopVC (S := Int) (fun s_ w1 K => weirlaw7_Outer_grown_L506 R (some ⟨gx, 0, none⟩) gy s_ w1 K) 0 w') :
    LoopVC (S := Int) (fun s_ w1 K => weirlaw7_Outer_grown_L250 R (some ⟨gx, 0, none⟩) gy s_ w1 K) 0 w := by
  have hin : ∀ {i : Nat} {r : GR}, rows[i]? = some r → r.n ≤ 4000001 := fun h => hn _ (List.mem_of_getElem? h)
  have hget : ∀ i, i < ln → ∃ r, rows[i]? = some r := fun i hi => ⟨_, List.getElem?_eq_getElem (by omega)⟩
  have hrest : ∀ {Y : List Fct} {w' : World}, Sep (Γ0 ++ Y) w' → w0.heap.size ≤ w'.heap.size := fun H => (H.restOf 0 (by
    rw [List.getElem?_append_left (List.getElem?_eq_some_iff.1 h0).1]; exact h0)).size
  refine LoopVC.of (fun st w' => ∃ (j : Nat) (LA : Option Addr) (Lc : Nat) (D : List Fct) (gs : List GR), st = (j : Int) ∧ j ≤ ln ∧ gs.length = j ∧ StoodG mkE7 mkE7 70 rows gs D j ∧
      Sep (Fct.own b 26 1 (.slice LA j Lc) j (gs.map GR.val) :: Fct.blk gy 79 [.slice LA j Lc, z] :: (Γ0 ++ (D ++ mapI (fullR b 54 3 mkE7) j (rows.drop j)))) w') (fun st _ => ((ln : Int) - st).toNat)
    ⟨0, none, 0, [], [], rfl, Nat.zero_le _, rfl, (fun w2 _ j r hj => absurd hj (by omega)), (H.nil b 26 1).front⟩ ?_
  rintro _ w4 ⟨j, LA, Lc, D, gs, rfl, hj, hgl, hst, H⟩
  show weirlaw7_Outer_grown_L250 _ _ gy (j : Int) w4 _
  unfold weirlaw7_Outer_grown_L250
  have inx : ∀ {Y : List Fct} {w' : World}, Sep (Γ0 ++ Y) w' → w'.cell? ⟨gx, 0, none⟩ = some (.slice lA ln lc) ∧ Cells w' lA (rows.map GR.val) := fun {Y w'} H => hx w' fun f hf => H.mem (List.mem_append_left _ hf)
  have hx4 := inx H.tail.tail
  refine ⟨⟨gx, 0, none⟩, rfl, _, _, _, hx4.1, Br.dec (fun hlt => ?_) fun hge => ?_⟩
  rotate_left
  · have hjn : j = ln := by omega
    subst hjn
    rw [List.drop_of_length_le (by omega)] at H
    exact hK w4 LA Lc D gs hgl hst (by simpa [mapI] using H)
  obtain ⟨r, hr⟩ := hget j (by omega)
  have hrn := hin hr
  have hmk : IntKind.i64.wrap ((-1000) - (j : Int)) = -1000 - (j : Int) := w64 (by omega) (by omega)
  have e1 : IntKind.i64.wrap ((j : Int) + 1) = ((j + 1 : Nat) : Int) := by rw [w64 (by omega) (by omega)]; omega
  refine ⟨⟨gx, 0, none⟩, rfl, _, _, _, hx4.1, ?_⟩
  refine idx_rows hx4.2 hr hlen fun a ha => ⟨_, _, _, ha, ?_⟩
  rw [drop_consA hr] at H
  obtain ⟨R', hR⟩ : ∃ R, R = mapI (fullR b 54 3 mkE7) (j + 1) (rows.drop (j + 1)) := ⟨_, rfl⟩
  obtain ⟨cs, hcs⟩ : ∃ cs : List Value, cs = [.slice LA j Lc, z] := ⟨_, rfl⟩
  have H : Sep ((Fct.own b 26 1 (.slice LA j Lc) j (gs.map GR.val) :: Fct.blk gy 79 cs :: Γ0) ++ (D ++ fullR b 54 3 mkE7 j r :: R')) w4 := by rw [hR, hcs]; exact H
  have H := H.focus
  obtain ⟨Γ1, hΓ1⟩ : ∃ Γ1, Γ1 = Fct.own b 26 1 (.slice LA j Lc) j (gs.map GR.val) :: Fct.blk gy 79 cs :: (Γ0 ++ (D ++ R')) := ⟨_, rfl⟩
  obtain ⟨bs, hbs⟩ : ∃ bs : Nat → Fct, bs = fun k => baseR b 54 3 r.A r.c r.n (reps r.n (mkE7 j)) (mkE7 j) k := ⟨_, rfl⟩
  have H : Sep (bs 0 :: ([] ++ Γ1)) w4 := by
    rw [hΓ1, hbs]
    have e : baseR b 54 3 r.A r.c r.n (reps r.n (mkE7 j)) (mkE7 j) 0 = fullR b 54 3 mkE7 j r := by unfold baseR fullR; rw [reps_zero, List.append_nil]; rfl
    simp only
    rw [e]; exact H
  have szG : ∀ {Y : List Fct} {w' : World}, Sep (Y ++ Γ1) w' → w0.heap.size ≤ w'.heap.size := fun {Y w'} H => by
    rw [hΓ1] at H
    have H := H.perm (List.perm_append_comm)
    have H : Sep (_ :: _ :: (Γ0 ++ (D ++ R')) ++ Y) w' := H
    rw [List.cons_append, List.cons_append, List.append_assoc] at H
    exact hrest H.tail.tail
  refine LoopVC.of (fun st w' => ∃ (a k : Nat) (X : List Fct), st.2 = (a : Int) ∧ a ≤ 70 ∧ st.1.2.1 = r.n + a ∧ Grown b 54 3 r.A r.c r.n (reps r.n (mkE7 j)) (mkE7 j) k a st.1.1 st.1.2.2 X ∧ Sep (bs k :: (X ++ Γ1)) w') (fun st _ => ((70 : Int) - st.2).toNat)
    ⟨0, 0, [], rfl, by decide, rfl, .base (Nat.le_refl _), H⟩ ?_
  rintro ⟨⟨gA, gn, gc⟩, _⟩ w5 ⟨a, k, X, rfl, haT, hgn, hG, H⟩
  simp only at hgn hG
  subst hgn
  show weirlaw7_Outer_grown_L64074 gy (j : Int) _ gA (r.n + a) gc (a : Int) w5 _
  unfold weirlaw7_Outer_grown_L64074
  refine Br.dec (fun ha1 => ?_) fun ha1 => ?_
  · rw [hmk]
    have e2 : IntKind.i64.wrap ((a : Int) + 1) = ((a + 1 : Nat) : Int) := by rw [w64 (by omega) (by omega)]; omega
    refine NewVC.sep (cs := mkE7 j) H fun g1 w6 H => ?_
    rw [List.cons_append, List.append_assoc] at H
    have hz6 := szG (Y := bs k :: X) (w' := w6) (by
      have H : Sep ((bs k :: X) ++ (Γ1 ++ [Fct.blk g1 54 (mkE7 j)])) w6 := H
      rw [← List.append_assoc] at H
      exact H.dropEnd)
    have hsrc : Cells w6 (some ⟨g1, 0, none⟩) (reps 1 (mkE7 j)) := by
      rw [reps_one]
      exact Cells.blk0 (H.mem (f := Fct.blk g1 54 (mkE7 j)) (List.mem_cons_of_mem _ (List.mem_append_right _ (List.mem_append_right _ List.mem_cons_self))))
    rw [hbs] at H
    refine AppVC.grown hG H Tryd.underlying26 tE rfl (by decide) (by rw [reps_len]; rfl) rfl (mkE7_one j) hsrc (by decide) (by omega) (by decide) (by omega) fun k' A2 c2 X' w7 hk' hG' H7 => ?_
    refine ⟨⟨a + 1, k', X', e2, by omega, rfl, hG', ?_⟩, by simp only [e2]; omega⟩
    have H7 : Sep ((bs k' :: X') ++ (Γ1 ++ [Fct.blk g1 54 (mkE7 j)])) w7 := by rw [hbs]; exact H7
    rw [← List.append_assoc] at H7
    exact H7.dropEnd
  · have haT' : a = 70 := by omega
    subst haT'
    have hgy : Blk w5 gy 79 cs := H.mem (f := Fct.blk gy 79 cs) (by rw [hΓ1]; simp)
    refine ⟨⟨gy, 0, none⟩, rfl, _, _, _, by rw [hcs] at hgy; exact cells_get (CellsAt.blk hgy) 0 rfl, ?_⟩
    refine NewVC.sep (cs := [.slice gA (r.n + 70) gc]) H fun g2 w8 H => ?_
    have H : Sep ((bs k :: X) ++ Γ1 ++ [Fct.blk g2 26 [.slice gA (r.n + 70) gc]]) w8 := H
    have hz8 := szG H.dropEnd
    rw [hΓ1, List.append_assoc] at H
    have H : Sep ((bs k :: X) ++ Fct.own b 26 1 (.slice LA j Lc) j (gs.map GR.val) :: ((Fct.blk gy 79 cs :: (Γ0 ++ (D ++ R'))) ++ [Fct.blk g2 26 [.slice gA (r.n + 70) gc]])) w8 := H
    have H := H.mid
    have hsrc : Cells w8 (some ⟨g2, 0, none⟩) [Value.slice gA (r.n + 70) gc] := Cells.blk0 (H.mem (f := Fct.blk g2 26 [.slice gA (r.n + 70) gc]) (by simp))
    refine AppVC.sep H 0 Tryd.underlying76 tE7s rfl (by decide) rfl hsrc rfl (fun v hv => by simp at hv; subst hv; rfl) (by omega) (by decide) (by omega) fun A3 c3 w9 H9 _ => ?_
    have H9 : Sep (Fct.own b 26 1 (.slice A3 (j + 1) c3) (j + 1) (gs.map GR.val ++ [.slice gA (r.n + 70) gc]) :: ((bs k :: X) ++ ((Fct.blk gy 79 cs :: (Γ0 ++ (D ++ R'))) ++ [Fct.blk g2 26 [.slice gA (r.n + 70) gc]]))) w9 := H9
    rw [← List.append_assoc, ← List.cons_append] at H9
    have H9 := H9.dropEnd
    obtain ⟨OL, hOL⟩ : ∃ OL, OL = Fct.own b 26 1 (.slice A3 (j + 1) c3) (j + 1) (gs.map GR.val ++ [.slice gA (r.n + 70) gc]) := ⟨_, rfl⟩
    rw [← hOL] at H9
    have H9 := H9.perm (Γ' := Fct.blk gy 79 cs :: OL :: (Γ0 ++ ((D ++ (bs k :: X)) ++ R'))) (perm_cnt fun c o h1 h2 h3 => by simp only [h1, h2]; omega)
    refine ⟨⟨gy, 0, none⟩, rfl, ?_⟩
    refine SetVC.sep H9 0 rfl (show 0 < cs.length by rw [hcs]; show 0 < 2; decide) fun w10 H10 => ?_
    have H10 : Sep (Fct.blk gy 79 (cs.set 0 (.slice A3 (j + 1) c3)) :: OL :: (Γ0 ++ ((D ++ (bs k :: X)) ++ R'))) w10 := H10
    refine ⟨⟨j + 1, A3, c3, D ++ (bs k :: X), gs ++ [⟨gA, r.n + 70, gc, []⟩], e1, by omega, by simp [hgl], ?_, ?_⟩, by simp only [e1]; omega⟩
    · intro w2 hf q r' hq hr'
      rcases Nat.lt_or_ge q j with hqj | hqj
      · obtain ⟨h1, g, hg, h2⟩ := hst w2 (fun f hf' => hf f (List.mem_append_left _ hf')) q r' hqj hr'
        exact ⟨h1, g, by rw [List.getElem?_append_left (by omega)]; exact hg, h2⟩
      · have hqj : q = j := by omega
        subst hqj
        rw [hr] at hr'; injection hr' with hr'; subst hr'
        have hbase : (baseR b 54 3 r.A r.c r.n (reps r.n (mkE7 q)) (mkE7 q) k).φ w2 := by
          have := hf _ (List.mem_append_right D (List.mem_cons_self (a := bs k) (l := X)))
          rw [hbs] at this; exact this
        refine ⟨?_, ⟨gA, r.n + 70, gc, []⟩, by rw [List.getElem?_append_right (by omega), hgl, Nat.sub_self]; rfl, rfl, hG.cells hbase fun f hfX => hf f (List.mem_append_right _ (List.mem_cons_of_mem _ hfX))⟩
        have := base_cells (m := 0) hbase (Nat.zero_le _)
        rwa [reps_zero, List.append_nil] at this
    · rw [hOL, hcs, hR] at H10
      rw [List.map_append]
      exact H10.perm (.swap _ _ _)
set_option maxHeartbeats 8000000 in
theorem Outer_grown_more1 {z : Value} {gy : Nat} (H : Sep (Fct.blk gy 79 [z, .slice none 0 0] :: (Γ0 ++ mapI (fullR b 65 2 mkO7) 0 rows)) w) (h0 : Γ0[0]? = some (Fct.rest w0 None)) (hb : b ≤ w0.heap.size)
    (hx : ∀ w', (∀ f ∈ Γ0, f.φ w') → w'.cell? ((⟨gx, 0, none⟩ : Addr).add 1) = some (.slice lA ln lc) ∧ Cells w' lA (rows.map GR.val))
    (hlen : rows.length = ln) (hsm : ln ≤ 1000000) (hn : ∀ r ∈ rows, r.n ≤ 4000001) {R : Ending → World → Prop}
    (hK : ∀ w' LA Lc D gs, gs.length = ln → StoodG mkO7 mkO7 70 rows gs D ln → Sep (Fct.own b 52 1 (.slice LA ln Lc) ln (gs.map GR.val) :: Fct.blk gy 79 [z, .slice LA ln Lc] :: (Γ0 ++ D)) w' → R (.returned (.pointer (some ⟨gy, 0, none⟩))) w') :
    LoopVC (S := Int) (fun s_ w1 K => weirlaw7_Outer_grown_L506 R (some ⟨gx, 0, none⟩) gy s_ w1 K) 0 w := by
  have hin : ∀ {i : Nat} {r : GR}, rows[i]? = some r → r.n ≤ 4000001 := fun h => hn _ (List.mem_of_getElem? h)
  have hget : ∀ i, i < ln → ∃ r, rows[i]? = some r := fun i hi => ⟨_, List.getElem?_eq_getElem (by omega)⟩
  have hrest : ∀ {Y : List Fct} {w' : World}, Sep (Γ0 ++ Y) w' → w0.heap.size ≤ w'.heap.size := fun H => (H.restOf 0 (by
    rw [List.getElem?_append_left (List.getElem?_eq_some_iff.1 h0).1]; exact h0)).size
  refine LoopVC.of (fun st w' => ∃ (j : Nat) (LA : Option Addr) (Lc : Nat) (D : List Fct) (gs : List GR), st = (j : Int) ∧ j ≤ ln ∧ gs.length = j ∧ StoodG mkO7 mkO7 70 rows gs D j ∧
      Sep (Fct.own b 52 1 (.slice LA j Lc) j (gs.map GR.val) :: Fct.blk gy 79 [z, .slice LA j Lc] :: (Γ0 ++ (D ++ mapI (fullR b 65 2 mkO7) j (rows.drop j)))) w') (fun st _ => ((ln : Int) - st).toNat)
    ⟨0, none, 0, [], [], rfl, Nat.zero_le _, rfl, (fun w2 _ j r hj => absurd hj (by omega)), (H.nil b 52 1).front⟩ ?_
  rintro _ w4 ⟨j, LA, Lc, D, gs, rfl, hj, hgl, hst, H⟩
  show weirlaw7_Outer_grown_L506 _ _ gy (j : Int) w4 _
  unfold weirlaw7_Outer_grown_L506
  have inx : ∀ {Y : List Fct} {w' : World}, Sep (Γ0 ++ Y) w' → w'.cell? ((⟨gx, 0, none⟩ : Addr).add 1) = some (.slice lA ln lc) ∧ Cells w' lA (rows.map GR.val) := fun {Y w'} H => hx w' fun f hf => H.mem (List.mem_append_left _ hf)
  have hx4 := inx H.tail.tail
  refine ⟨⟨gx, 0, none⟩, rfl, _, _, _, hx4.1, Br.dec (fun hlt => ?_) fun hge => ?_⟩
  rotate_left
  · have hjn : j = ln := by omega
    subst hjn
    rw [List.drop_of_length_le (by omega)] at H
    exact hK w4 LA Lc D gs hgl hst (by simpa [mapI] using H)
  obtain ⟨r, hr⟩ := hget j (by omega)
  have hrn := hin hr
  have hmk : IntKind.i64.wrap ((-1000) - (j : Int)) = -1000 - (j : Int) := w64 (by omega) (by omega)
  have e1 : IntKind.i64.wrap ((j : Int) + 1) = ((j + 1 : Nat) : Int) := by rw [w64 (by omega) (by omega)]; omega
  refine ⟨⟨gx, 0, none⟩, rfl, _, _, _, hx4.1, ?_⟩
  refine idx_rows hx4.2 hr hlen fun a ha => ⟨_, _, _, ha, ?_⟩
  rw [drop_consA hr] at H
  obtain ⟨R', hR⟩ : ∃ R, R = mapI (fullR b 65 2 mkO7) (j + 1) (rows.drop (j + 1)) := ⟨_, rfl⟩
  obtain ⟨cs, hcs⟩ : ∃ cs : List Value, cs = [z, .slice LA j Lc] := ⟨_, rfl⟩
  have H : Sep ((Fct.own b 52 1 (.slice LA j Lc) j (gs.map GR.val) :: Fct.blk gy 79 cs :: Γ0) ++ (D ++ fullR b 65 2 mkO7 j r :: R')) w4 := by rw [hR, hcs]; exact H
  have H := H.focus
  obtain ⟨Γ1, hΓ1⟩ : ∃ Γ1, Γ1 = Fct.own b 52 1 (.slice LA j Lc) j (gs.map GR.val) :: Fct.blk gy 79 cs :: (Γ0 ++ (D ++ R')) := ⟨_, rfl⟩
  obtain ⟨bs, hbs⟩ : ∃ bs : Nat → Fct, bs = fun k => baseR b 65 2 r.A r.c r.n (reps r.n (mkO7 j)) (mkO7 j) k := ⟨_, rfl⟩
  have H : Sep (bs 0 :: ([] ++ Γ1)) w4 := by
    rw [hΓ1, hbs]
    have e : baseR b 65 2 r.A r.c r.n (reps r.n (mkO7 j)) (mkO7 j) 0 = fullR b 65 2 mkO7 j r := by unfold baseR fullR; rw [reps_zero, List.append_nil]; rfl
    simp only
    rw [e]; exact H
  have szG : ∀ {Y : List Fct} {w' : World}, Sep (Y ++ Γ1) w' → w0.heap.size ≤ w'.heap.size := fun {Y w'} H => by
    rw [hΓ1] at H
    have H := H.perm (List.perm_append_comm)
    have H : Sep (_ :: _ :: (Γ0 ++ (D ++ R')) ++ Y) w' := H
    rw [List.cons_append, List.cons_append, List.append_assoc] at H
    exact hrest H.tail.tail
  refine LoopVC.of (fun st w' => ∃ (a k : Nat) (X : List Fct), st.2 = (a : Int) ∧ a ≤ 70 ∧ st.1.2.1 = r.n + a ∧ Grown b 65 2 r.A r.c r.n (reps r.n (mkO7 j)) (mkO7 j) k a st.1.1 st.1.2.2 X ∧ Sep (bs k :: (X ++ Γ1)) w') (fun st _ => ((70 : Int) - st.2).toNat)
    ⟨0, 0, [], rfl, by decide, rfl, .base (Nat.le_refl _), H⟩ ?_
  rintro ⟨⟨gA, gn, gc⟩, _⟩ w5 ⟨a, k, X, rfl, haT, hgn, hG, H⟩
  simp only at hgn hG
  subst hgn
  show weirlaw7_Outer_grown_L129610 gy (j : Int) _ gA (r.n + a) gc (a : Int) w5 _
  unfold weirlaw7_Outer_grown_L129610
  refine Br.dec (fun ha1 => ?_) fun ha1 => ?_
  · rw [hmk]
    have e2 : IntKind.i64.wrap ((a : Int) + 1) = ((a + 1 : Nat) : Int) := by rw [w64 (by omega) (by omega)]; omega
    refine NewVC.sep (cs := mkO7 j) H fun g1 w6 H => ?_
    rw [List.cons_append, List.append_assoc] at H
    have hz6 := szG (Y := bs k :: X) (w' := w6) (by
      have H : Sep ((bs k :: X) ++ (Γ1 ++ [Fct.blk g1 65 (mkO7 j)])) w6 := H
      rw [← List.append_assoc] at H
      exact H.dropEnd)
    have hsrc : Cells w6 (some ⟨g1, 0, none⟩) (reps 1 (mkO7 j)) := by
      rw [reps_one]
      exact Cells.blk0 (H.mem (f := Fct.blk g1 65 (mkO7 j)) (List.mem_cons_of_mem _ (List.mem_append_right _ (List.mem_append_right _ List.mem_cons_self))))
    rw [hbs] at H
    refine AppVC.grown hG H Tryd.underlying52 tO rfl (by decide) (by rw [reps_len]; rfl) rfl (mkO7_one j) hsrc (by decide) (by omega) (by decide) (by omega) fun k' A2 c2 X' w7 hk' hG' H7 => ?_
    refine ⟨⟨a + 1, k', X', e2, by omega, rfl, hG', ?_⟩, by simp only [e2]; omega⟩
    have H7 : Sep ((bs k' :: X') ++ (Γ1 ++ [Fct.blk g1 65 (mkO7 j)])) w7 := by rw [hbs]; exact H7
    rw [← List.append_assoc] at H7
    exact H7.dropEnd
  · have haT' : a = 70 := by omega
    subst haT'
    have hgy : Blk w5 gy 79 cs := H.mem (f := Fct.blk gy 79 cs) (by rw [hΓ1]; simp)
    refine ⟨⟨gy, 0, none⟩, rfl, _, _, _, by rw [hcs] at hgy; exact cells_get (CellsAt.blk hgy) 1 rfl, ?_⟩
    refine NewVC.sep (cs := [.slice gA (r.n + 70) gc]) H fun g2 w8 H => ?_
    have H : Sep ((bs k :: X) ++ Γ1 ++ [Fct.blk g2 52 [.slice gA (r.n + 70) gc]]) w8 := H
    have hz8 := szG H.dropEnd
    rw [hΓ1, List.append_assoc] at H
    have H : Sep ((bs k :: X) ++ Fct.own b 52 1 (.slice LA j Lc) j (gs.map GR.val) :: ((Fct.blk gy 79 cs :: (Γ0 ++ (D ++ R'))) ++ [Fct.blk g2 52 [.slice gA (r.n + 70) gc]])) w8 := H
    have H := H.mid
    have hsrc : Cells w8 (some ⟨g2, 0, none⟩) [Value.slice gA (r.n + 70) gc] := Cells.blk0 (H.mem (f := Fct.blk g2 52 [.slice gA (r.n + 70) gc]) (by simp))
    refine AppVC.sep H 0 Tryd.underlying77 tO7s rfl (by decide) rfl hsrc rfl (fun v hv => by simp at hv; subst hv; rfl) (by omega) (by decide) (by omega) fun A3 c3 w9 H9 _ => ?_
    have H9 : Sep (Fct.own b 52 1 (.slice A3 (j + 1) c3) (j + 1) (gs.map GR.val ++ [.slice gA (r.n + 70) gc]) :: ((bs k :: X) ++ ((Fct.blk gy 79 cs :: (Γ0 ++ (D ++ R'))) ++ [Fct.blk g2 52 [.slice gA (r.n + 70) gc]]))) w9 := H9
    rw [← List.append_assoc, ← List.cons_append] at H9
    have H9 := H9.dropEnd
    obtain ⟨OL, hOL⟩ : ∃ OL, OL = Fct.own b 52 1 (.slice A3 (j + 1) c3) (j + 1) (gs.map GR.val ++ [.slice gA (r.n + 70) gc]) := ⟨_, rfl⟩
    rw [← hOL] at H9
    have H9 := H9.perm (Γ' := Fct.blk gy 79 cs :: OL :: (Γ0 ++ ((D ++ (bs k :: X)) ++ R'))) (perm_cnt fun c o h1 h2 h3 => by simp only [h1, h2]; omega)
    refine ⟨⟨gy, 0, none⟩, rfl, ?_⟩
    refine SetVC.sep H9 0 rfl (show 1 < cs.length by rw [hcs]; show 1 < 2; decide) fun w10 H10 => ?_
    have H10 : Sep (Fct.blk gy 79 (cs.set 1 (.slice A3 (j + 1) c3)) :: OL :: (Γ0 ++ ((D ++ (bs k :: X)) ++ R'))) w10 := H10
    refine ⟨⟨j + 1, A3, c3, D ++ (bs k :: X), gs ++ [⟨gA, r.n + 70, gc, []⟩], e1, by omega, by simp [hgl], ?_, ?_⟩, by simp only [e1]; omega⟩
    · intro w2 hf q r' hq hr'
      rcases Nat.lt_or_ge q j with hqj | hqj
      · obtain ⟨h1, g, hg, h2⟩ := hst w2 (fun f hf' => hf f (List.mem_append_left _ hf')) q r' hqj hr'
        exact ⟨h1, g, by rw [List.getElem?_append_left (by omega)]; exact hg, h2⟩
      · have hqj : q = j := by omega
        subst hqj
        rw [hr] at hr'; injection hr' with hr'; subst hr'
        have hbase : (baseR b 65 2 r.A r.c r.n (reps r.n (mkO7 q)) (mkO7 q) k).φ w2 := by
          have := hf _ (List.mem_append_right D (List.mem_cons_self (a := bs k) (l := X)))
          rw [hbs] at this; exact this
        refine ⟨?_, ⟨gA, r.n + 70, gc, []⟩, by rw [List.getElem?_append_right (by omega), hgl, Nat.sub_self]; rfl, rfl, hG.cells hbase fun f hfX => hf f (List.mem_append_right _ (List.mem_cons_of_mem _ hfX))⟩
        have := base_cells (m := 0) hbase (Nat.zero_le _)
        rwa [reps_zero, List.append_nil] at this
    · rw [hOL, hcs, hR] at H10
      rw [List.map_append]
      exact H10.perm (.swap _ _ _)
set_option maxHeartbeats 4000000 in
/-- All lists are written full and lengthened. -/
theorem Outer_grown_spec {r0 r1 : List GR} {n0 n1 c0 c1 : Nat} {A0 A1 : Option Addr} (H : Sep (Γ0 ++ (r0.map (rawR b 54 3) ++ r1.map (rawR b 65 2))) w) (h0 : Γ0[0]? = some (Fct.rest w0 None)) (hb : b ≤ w0.heap.size)
    (hx0 : ∀ w', (∀ f ∈ Γ0, f.φ w') → w'.cell? ⟨gx, 0, none⟩ = some (.slice A0 n0 c0) ∧ Cells w' A0 (r0.map GR.val)) (hx1 : ∀ w', (∀ f ∈ Γ0, f.φ w') → w'.cell? ((⟨gx, 0, none⟩ : Addr).add 1) = some (.slice A1 n1 c1) ∧ Cells w' A1 (r1.map GR.val))
    (l0 : r0.length = n0) (l1 : r1.length = n1) (s0 : n0 ≤ 1000000) (s1 : n1 ≤ 1000000) (m0 : ∀ r ∈ r0, r.n ≤ 4000001) (m1 : ∀ r ∈ r1, r.n ≤ 4000001) :
    Calls Tryd.prog 35 #[.pointer (some ⟨gx, 0, none⟩)] w fun e w' => ∃ (gy : Nat) (B0 B1 : Option Addr) (d0 d1 : Nat) (gs0 gs1 : List GR) (D0 D1 : List Fct), e = .returned (.pointer (some ⟨gy, 0, none⟩)) ∧ gs0.length = n0 ∧ gs1.length = n1 ∧
      StoodG mkE7 mkE7 70 r0 gs0 D0 n0 ∧ StoodG mkO7 mkO7 70 r1 gs1 D1 n1 ∧
      Sep (Γ0 ++ ((Fct.own b 26 1 (.slice B0 n0 d0) n0 (gs0.map GR.val) :: Fct.own b 52 1 (.slice B1 n1 d1) n1 (gs1.map GR.val) :: [Fct.blk gy 79 [.slice B0 n0 d0, .slice B1 n1 d1]]) ++ (D0 ++ D1))) w' := by
  refine weirlaw7_Outer_grown_of (some ⟨gx, 0, none⟩) w _ ?_
  unfold weirlaw7_Outer_grown_VC
  have h00 : ∀ Y : List Fct, (Γ0 ++ Y)[0]? = some (Fct.rest w0 None) := fun Y => by rw [List.getElem?_append_left (List.getElem?_eq_some_iff.1 h0).1]; exact h0
  have up : ∀ {Y : List Fct} {w' : World}, (∀ f ∈ Γ0 ++ Y, f.φ w') → ∀ f ∈ Γ0, f.φ w' := fun h f hf => h f (List.mem_append_left _ hf)
  refine Outer_grown_fill0 (Γ0 := Γ0 ++ r1.map (rawR b 65 2)) (H.perm (by rw [List.append_assoc]; exact List.perm_append_comm.append_left _)) (fun w' h => hx0 w' (up h)) l0 s0 m0 fun w1 H => ?_
  refine Outer_grown_fill1 (Γ0 := Γ0 ++ mapI (fullR b 54 3 mkE7) 0 r0) (H.perm (by rw [List.append_assoc, List.append_assoc]; exact List.perm_append_comm.append_left _)) (fun w' h => hx1 w' (up h)) l1 s1 m1 fun w2 H => ?_
  refine NewVC.sep (cs := [.slice none 0 0, .slice none 0 0]) H fun gy w3 H => ?_
  have H := H.front
  refine Outer_grown_more0 (z := .slice none 0 0) (Γ0 := Γ0 ++ mapI (fullR b 65 2 mkO7) 0 r1) (H.perm (.cons _ (by rw [List.append_assoc, List.append_assoc]; exact List.perm_append_comm.append_left _))) (h00 _) hb (fun w' h => hx0 w' (up h)) l0 s0 m0 fun w4 B0 d0 D0 gs0 g0 st0 H => ?_
  obtain ⟨O0, hO0⟩ : ∃ O, O = Fct.own b 26 1 (.slice B0 n0 d0) n0 (gs0.map GR.val) := ⟨_, rfl⟩
  rw [← hO0] at H
  refine Outer_grown_more1 (z := .slice B0 n0 d0) (Γ0 := Γ0 ++ (O0 :: D0)) (H.perm (perm_cnt fun c o h1 h2 h3 => by simp only [h1, h2]; omega)) (h00 _) hb (fun w' h => hx1 w' (up h)) l1 s1 m1 fun w5 B1 d1 D1 gs1 g1 st1 H => ?_
  refine ⟨gy, B0, B1, d0, d1, gs0, gs1, D0, D1, rfl, g0, g1, st0, st1, ?_⟩
  rw [← hO0]
  exact H.perm (perm_cnt fun c o h1 h2 h3 => by simp only [h1, h2, h3]; omega)
set_option maxHeartbeats 4000000 in
/-- Lists that hold a mark alone each. -/
theorem holds_spec {r0 r1 : List GR} {n0 n1 c0 c1 : Nat} {A0 A1 : Option Addr} (hc0 : w.cell? ⟨gx, 0, none⟩ = some (.slice A0 n0 c0)) (hc1 : w.cell? ((⟨gx, 0, none⟩ : Addr).add 1) = some (.slice A1 n1 c1)) (ha0 : Cells w A0 (r0.map GR.val)) (ha1 : Cells w A1 (r1.map GR.val))
    (l0 : r0.length = n0) (l1 : r1.length = n1) (s0 : n0 ≤ 1000000) (s1 : n1 ≤ 1000000) (m0 : ∀ r ∈ r0, r.n ≤ 4000100) (m1 : ∀ r ∈ r1, r.n ≤ 4000100)
    (h0 : ∀ (j : Nat) (r : GR), r0[j]? = some r → Cells w r.A (reps r.n (mkE7 j))) (h1 : ∀ (j : Nat) (r : GR), r1[j]? = some r → Cells w r.A (reps r.n (mkO7 j))) :
    Calls Tryd.prog 36 #[.pointer (some ⟨gx, 0, none⟩)] w fun e w' => w' = w ∧ e = .returned (.bool true) := by
  refine weirlaw7_Outer_holds_of (some ⟨gx, 0, none⟩) w _ ?_
  unfold weirlaw7_Outer_holds_VC
  refine LoopVC.of (fun st w' => w' = w ∧ ∃ i : Nat, st = (i : Int) ∧ i ≤ n0) (fun st _ => ((n0 : Int) - st).toNat) ⟨rfl, 0, rfl, Nat.zero_le _⟩ ?_
  rintro _ w1 ⟨hw, i, rfl, hi⟩
  subst w1
  show weirlaw7_Outer_holds_L26 _ _ (i : Int) w _
  unfold weirlaw7_Outer_holds_L26
  refine ⟨⟨gx, 0, none⟩, rfl, _, _, _, hc0, Br.dec (fun hlt => ?_) fun hge => ?_⟩
  · obtain ⟨r, hr⟩ : ∃ r, r0[i]? = some r := ⟨_, List.getElem?_eq_getElem (by omega)⟩
    have hrn := m0 _ (List.mem_of_getElem? hr)
    have hmk : IntKind.i64.wrap ((-1000) - (i : Int)) = -1000 - (i : Int) := w64 (by omega) (by omega)
    have e1 : IntKind.i64.wrap ((i : Int) + 1) = ((i + 1 : Nat) : Int) := by rw [w64 (by omega) (by omega)]; omega
    refine LoopVC.of (fun st w' => w' = w ∧ ∃ k : Nat, st = (k : Int) ∧ k ≤ r.n) (fun st _ => ((r.n : Int) - st).toNat) ⟨rfl, 0, rfl, Nat.zero_le _⟩ ?_
    rintro _ w2 ⟨hw, k, rfl, hk⟩
    subst w2
    show weirlaw7_Outer_holds_L1682 _ _ (i : Int) _ (k : Int) w _
    unfold weirlaw7_Outer_holds_L1682
    have e2 : IntKind.i64.wrap ((k : Int) + 1) = ((k + 1 : Nat) : Int) := by rw [w64 (by omega) (by omega)]; omega
    rw [hmk, e1, e2]
    refine ⟨⟨gx, 0, none⟩, rfl, _, _, _, hc0, idx_rows ha0 hr l0 fun a ha => ⟨_, _, _, ha, Br.dec (fun hk1 => ?_) fun hk1 => ?_⟩⟩
    · refine ⟨⟨gx, 0, none⟩, rfl, _, _, _, hc0, idx_rows ha0 hr l0 fun a ha => ⟨_, _, _, ha, ?_⟩⟩
      refine idx_rep (size := 3) (h0 i r hr) rfl (by decide) (by omega) rfl fun a ha => ⟨-1000 - (i : Int), by simpa [add_zero] using cells_get ha 0 rfl, Br.no (fun x => x rfl) ?_⟩
      refine ⟨⟨gx, 0, none⟩, rfl, _, _, _, hc0, idx_rows ha0 hr l0 fun a ha => ⟨_, _, _, ha, ?_⟩⟩
      refine idx_rep (size := 3) (h0 i r hr) rfl (by decide) (by omega) rfl fun a ha => ⟨_, _, _, cells_get ha 1 rfl, Br.no (by show ¬ ((0 : Int) < ((0 : Nat) : Int)); decide) ⟨⟨rfl, k + 1, rfl, by omega⟩, by omega⟩⟩
    · exact ⟨⟨rfl, i + 1, rfl, by omega⟩, by omega⟩
  refine LoopVC.of (fun st w' => w' = w ∧ ∃ i : Nat, st = (i : Int) ∧ i ≤ n1) (fun st _ => ((n1 : Int) - st).toNat) ⟨rfl, 0, rfl, Nat.zero_le _⟩ ?_
  rintro _ w1 ⟨hw, i, rfl, hi⟩
  subst w1
  show weirlaw7_Outer_holds_L58 _ _ (i : Int) w _
  unfold weirlaw7_Outer_holds_L58
  refine ⟨⟨gx, 0, none⟩, rfl, _, _, _, hc1, Br.dec (fun hlt => ?_) fun hge => ?_⟩
  · obtain ⟨r, hr⟩ : ∃ r, r1[i]? = some r := ⟨_, List.getElem?_eq_getElem (by omega)⟩
    have hrn := m1 _ (List.mem_of_getElem? hr)
    have hmk : IntKind.i64.wrap ((-1000) - (i : Int)) = -1000 - (i : Int) := w64 (by omega) (by omega)
    have e1 : IntKind.i64.wrap ((i : Int) + 1) = ((i + 1 : Nat) : Int) := by rw [w64 (by omega) (by omega)]; omega
    refine LoopVC.of (fun st w' => w' = w ∧ ∃ k : Nat, st = (k : Int) ∧ k ≤ r.n) (fun st _ => ((r.n : Int) - st).toNat) ⟨rfl, 0, rfl, Nat.zero_le _⟩ ?_
    rintro _ w2 ⟨hw, k, rfl, hk⟩
    subst w2
    show weirlaw7_Outer_holds_L3730 _ _ (i : Int) _ (k : Int) w _
    unfold weirlaw7_Outer_holds_L3730
    have e2 : IntKind.i64.wrap ((k : Int) + 1) = ((k + 1 : Nat) : Int) := by rw [w64 (by omega) (by omega)]; omega
    rw [hmk, e1, e2]
    refine ⟨⟨gx, 0, none⟩, rfl, _, _, _, hc1, idx_rows ha1 hr l1 fun a ha => ⟨_, _, _, ha, Br.dec (fun hk1 => ?_) fun hk1 => ?_⟩⟩
    · refine ⟨⟨gx, 0, none⟩, rfl, _, _, _, hc1, idx_rows ha1 hr l1 fun a ha => ⟨_, _, _, ha, ?_⟩⟩
      refine idx_rep (size := 2) (h1 i r hr) rfl (by decide) (by omega) rfl fun a ha => ⟨-1000 - (i : Int), by simpa [add_zero] using cells_get ha 0 rfl, Br.no (fun x => x rfl) ?_⟩
      refine ⟨⟨gx, 0, none⟩, rfl, _, _, _, hc1, idx_rows ha1 hr l1 fun a ha => ⟨_, _, _, ha, ?_⟩⟩
      refine idx_rep (size := 2) (h1 i r hr) rfl (by decide) (by omega) rfl fun a ha => ⟨_, _, _, cells_get ha 1 rfl, Br.no (by show ¬ ((0 : Int) < ((0 : Nat) : Int)); decide) ⟨⟨rfl, k + 1, rfl, by omega⟩, by omega⟩⟩
    · exact ⟨⟨rfl, i + 1, rfl, by omega⟩, by omega⟩
  exact ⟨rfl, rfl⟩
end
end N6
end Go.Proofs.YtkiogaglmjeplaaDoor
/- Ip6Lent: what is written; headers and options that join the lists. -/
namespace Go.Eng
open Go Go.RowKit
def wy (i : Nat) : Bool := i == 2 || i == 3 || i == 5
def wayV : List Int := [0, 0, 1, 1, 0, 1]
def wyN (i : Nat) : Nat := if wy i then 1 else 0
theorem wy_at : ∀ i : Fin 6, wayV[i.val]? = some ((wyN i.val : Nat) : Int) := by decide
def grX7 (r : Ip6R) : GR := ⟨r.v.exts.A, r.v.exts.n, r.v.exts.k, (r.exts.map fun x => x.v.cells).flatten⟩
def grO7 (x : ExtR) : GR := ⟨x.v.opts.A, x.v.opts.n, x.v.opts.k, (x.opts.map fun r => r.v.cells).flatten⟩
def allE (P : List Ip6R) : List ExtR := P.flatMap fun r => r.exts
theorem allE_snoc (P : List Ip6R) (r : Ip6R) : allE (P ++ [r]) = allE P ++ r.exts := by unfold allE; rw [List.flatMap_append]; simp
end Go.Eng
namespace Go.Proofs.YtkiogaglmjeplaaDoor
namespace N6
open Go.Eng Go.RowKit
section
variable {w w0 : World} {Γ : List Fct} {b : Nat}
theorem way_idx {A : Option Addr} (h : Cells w A (wayV.map (.int .i64))) {i : Nat} (hi : i < 6) {F : Addr → Prop} (hF : ∀ a, w.cell? a = some (.int .i64 ((wyN i : Nat) : Int)) → F a) : IdxVC A 6 1 (i : Int) F := by
  refine IdxVC.int h (by omega) (by omega) rfl fun a ha => hF a ?_
  rw [ha, Int.toNat_natCast, List.getD_eq_getElem?_getD, wy_at ⟨i, hi⟩]; rfl
theorem two_rec {g t size : Nat} {x y : List Value} (h0 : 0 < size) (hx : x.length = size) (hy : y.length = size) (h : Blk w g t (x ++ y)) {c : Bool} {i : Nat} (hi : wyN i = if c then 1 else 0) {F : Addr → Prop} (hF : ∀ a, CellsAt w a 0 (if c then y else x) → F a) : IdxVC (some ⟨g, 0, none⟩) 2 size ((wyN i : Nat) : Int) F := by
  have hr : Recs w (some ⟨g, 0, none⟩) size [x, y] := by
    refine Recs.of_cells h0 (fun r hr => ?_) (by simpa using Cells.blk0 h)
    rcases List.mem_cons.1 hr with hr | hr
    · rw [hr]; exact hx
    · rw [List.mem_singleton.1 hr]; exact hy
  exact IdxVC.recD (w := w) (rs := [x, y]) (cs := if c then y else x) (fun w3 => w3 = w) rfl (fun w3 e => by rw [e]; exact hr) rfl (by rw [hi]; cases c <;> rfl) fun a ha => hF a (ha w rfl)
set_option maxHeartbeats 4000000 in
theorem wrote_spec {n lc : Nat} {lA : Option Addr} {rows : List GR} {h : Ip6V} {es : List ExtR} {dt : List Int} (H : Sep (Fct.rest w0 None :: Fct.own b 22 1 (.slice lA n lc) n (rows.map GR.val) :: Γ) w) (hb : b ≤ w0.heap.size) (hn : n ≤ 1000000) (hA : Ip6At w0 h es dt) (hK : Kn w0) :
    Calls Tryd.prog 32 #[h.val, .slice lA n lc] w fun e w' => ∃ (A : Option Addr) (c : Nat) (s1 s2 : Sl), e = .returned (.tuple #[.slice A (n + 2) c, .bool true]) ∧ s1.n = (ser6S (h.d es dt)).1.length ∧ s2.n = (putChainS (es.map ExtR.d) h.next).1.length ∧
      Sep (Fct.rest w0 None :: Fct.own b 22 1 (.slice A (n + 2) c) (n + 2) ((rows ++ [grB s1 (ser6S (h.d es dt)).1, grB s2 (putChainS (es.map ExtR.d) h.next).1]).map GR.val) :: (Γ ++ [rawR b 5 1 (grB s1 (ser6S (h.d es dt)).1), rawR b 5 1 (grB s2 (putChainS (es.map ExtR.d) h.next).1)])) w' := by
  refine weirlaw7_wrote_of h lA n lc w _ ?_
  unfold weirlaw7_wrote_VC
  obtain ⟨r1, hr1⟩ : ∃ r, r = (ser6S (h.d es dt)).1 := ⟨_, rfl⟩
  obtain ⟨r2, hr2⟩ : ∃ r, r = (putChainS (es.map ExtR.d) h.next).1 := ⟨_, rfl⟩
  have l1 : r1.length ≤ 4000000 := by rw [hr1]; have := ser6S_len (h.d es dt); omega
  have l2 : r2.length ≤ 4000000 := by rw [hr2]; have := putChainS_len (es.map ExtR.d) h.next; omega
  have t1 : Bts r1 := by rw [hr1]; exact ser6S_bts hA.ok
  have t2 : Bts r2 := by rw [hr2]; exact putChainS_bts (ExtsAt.ok hA.exts) _
  refine NewVC.sep H fun g1 w1 H => ?_
  have H := H.front
  have hz : ∀ {f : Fct} {Y : List Fct} {w' : World}, Sep (f :: Fct.rest w0 None :: Y) w' → b ≤ w'.heap.size := fun H => Nat.le_trans hb (H.restOf 1 rfl).size
  refine Ip6V.of h ⟨H.at 0 rfl, ?_⟩
  refine (serialise_spec (hA.ext (H.restOf 1 rfl)) (hK.ext (H.restOf 1 rfl))).mono ?_
  intro e w2 hc
  obtain ⟨A1, c1, rfl, H⟩ := hc.more H (hz H)
  rw [← hr1] at H ⊢
  refine ⟨_, _, _, _, rfl, Ip6V.of h ⟨H.at 0 rfl, ?_⟩⟩
  refine (refSerialise_spec (hA.ext (H.restOf 1 rfl))).mono ?_
  intro e w3 hc
  obtain ⟨A3, c3, rfl, H⟩ := hc.more H (hz H)
  rw [← hr1] at H ⊢
  refine ⟨_, _, _, _, rfl, _, _, _, H.cell 0 rfl 37 rfl, _, H.cell 0 rfl 42 rfl, ?_⟩
  refine (putChain_spec (next := h.next) (hA.exts.ext (H.restOf 1 rfl)) (hK.ext (H.restOf 1 rfl))).mono ?_
  intro e w4 hc
  obtain ⟨A2, c2, rfl, H⟩ := hc.more H (hz H)
  rw [← hr2] at H ⊢
  refine ⟨_, _, _, _, rfl, _, _, _, H.cell 0 rfl 37 rfl, _, H.cell 0 rfl 42 rfl, ?_⟩
  refine (refPutChain_spec (next := h.next) (hA.exts.ext (H.restOf 1 rfl))).mono ?_
  intro e w5 hc
  obtain ⟨A4, c4, rfl, H⟩ := hc.more H (hz H)
  rw [← hr2] at H ⊢
  obtain ⟨G1, hG1⟩ : ∃ G, G = rawR b 5 1 (grB ⟨A1, r1.length, c1⟩ r1) := ⟨_, rfl⟩
  obtain ⟨G2, hG2⟩ : ∃ G, G = rawR b 5 1 (grB ⟨A2, r2.length, c2⟩ r2) := ⟨_, rfl⟩
  obtain ⟨G3, hG3⟩ : ∃ G, G = rawR b 5 1 (grB ⟨A3, r1.length, c3⟩ r1) := ⟨_, rfl⟩
  obtain ⟨G4, hG4⟩ : ∃ G, G = rawR b 5 1 (grB ⟨A4, r2.length, c4⟩ r2) := ⟨_, rfl⟩
  rw [← hG1, ← hG2, ← hG3, ← hG4] at H
  refine ⟨_, _, _, _, rfl, NewVC.sep (cs := [.slice A1 r1.length c1, .slice A2 r2.length c2]) H fun g2 w6 H => ?_⟩
  have hz6 := hz (f := Fct.blk g1 30 h.cells) (w' := w6) (H.sub (List.sublist_append_left _ _))
  refine AppVC.sep (m := 2) H 2 Tryd.underlying60 tSl rfl (by decide) rfl (Cells.blk0 (H.mem (f := Fct.blk g2 22 [.slice A1 r1.length c1, .slice A2 r2.length c2]) (by simp))) rfl (fun v hv => by simp at hv; rcases hv with rfl | rfl <;> rfl) (by omega) (by decide) hz6 fun A c w7 H _ => ?_
  have H : Sep ((Fct.blk g1 30 h.cells :: Fct.rest w0 None :: Fct.own b 22 1 (.slice A (n + 2) c) (n + 2) (rows.map GR.val ++ [.slice A1 r1.length c1, .slice A2 r2.length c2]) :: ((((Γ ++ [G1]) ++ [G3]) ++ [G2]) ++ [G4])) ++ [Fct.blk g2 22 [.slice A1 r1.length c1, .slice A2 r2.length c2]]) w7 := H
  have H := H.dropEnd
  have B1 : BytesAt w7 ⟨A1, r1.length, c1⟩ r1 := bytesAt_raw (b := b) (by have := H.mem (f := G1) (by simp); rw [hG1] at this; exact this) rfl l1 t1
  have B2 : BytesAt w7 ⟨A2, r2.length, c2⟩ r2 := bytesAt_raw (b := b) (by have := H.mem (f := G2) (by simp); rw [hG2] at this; exact this) rfl l2 t2
  have B3 : BytesAt w7 ⟨A3, r1.length, c3⟩ r1 := bytesAt_raw (b := b) (by have := H.mem (f := G3) (by simp); rw [hG3] at this; exact this) rfl l1 t1
  have B4 : BytesAt w7 ⟨A4, r2.length, c4⟩ r2 := bytesAt_raw (b := b) (by have := H.mem (f := G4) (by simp); rw [hG4] at this; exact this) rfl l2 t2
  refine num7_spec.mono ?_
  rintro _ w8 ⟨hw, rfl⟩
  subst w8
  refine ⟨_, rfl, Br.yes rfl ?_⟩
  refine num7_spec.mono ?_
  rintro _ w8 ⟨hw, rfl⟩
  subst w8
  refine ⟨_, rfl, Br.yes rfl ?_⟩
  refine (alike7_spec B1 B3).mono ?_
  rintro _ w8 ⟨hw, rfl⟩
  subst w8
  refine ⟨_, rfl, Br.t (by simp) ?_⟩
  refine (alike7_spec B2 B4).mono ?_
  rintro _ w8 ⟨hw, rfl⟩
  subst w8
  refine ⟨_, rfl, A, c, ⟨A1, r1.length, c1⟩, ⟨A2, r2.length, c2⟩, by simp, rfl, rfl, ?_⟩
  rw [List.map_append, ← hG1, ← hG2]
  have H := H.tail
  refine (H.sub (Γ' := Fct.rest w0 None :: Fct.own b 22 1 (.slice A (n + 2) c) (n + 2) (rows.map GR.val ++ [.slice A1 r1.length c1, .slice A2 r2.length c2]) :: ((Γ ++ [G1]) ++ [G2])) (.cons_cons _ (.cons_cons _ ?_))).perm ?_
  · exact (((List.Sublist.refl (Γ ++ [G1])).append (List.sublist_append_right [G3] [G2])).trans (by rw [List.append_assoc, List.append_assoc, List.append_assoc]; exact List.Sublist.refl _)).trans (List.sublist_append_left _ _)
  · rw [List.append_assoc]; exact .refl _
set_option maxHeartbeats 4000000 in
theorem take_spec {gx n m ec oc : Nat} {EA OA : Option Addr} {R0 R1 : List GR} {s : Sl} {xs : List ExtR} (H : Sep (Fct.blk gx 79 [.slice EA n ec, .slice OA m oc] :: Fct.own b 26 1 (.slice EA n ec) n (R0.map GR.val) :: Fct.own b 52 1 (.slice OA m oc) m (R1.map GR.val) :: Fct.rest w0 None :: Γ) w) (hb : b ≤ w0.heap.size) (hn : n ≤ 1000) (hm : m ≤ 1000) (hl : xs.length ≤ 8)
    (rX : ∀ w', (∀ f ∈ Fct.rest w0 None :: Γ, f.φ w') → ExtsAt w' s xs) :
    Calls Tryd.prog 34 #[.pointer (some ⟨gx, 0, none⟩), s.val] w fun e w' => e = .returned (.tuple #[]) ∧ ∃ (EA' OA' : Option Addr) (ec' oc' : Nat),
      Sep (Fct.blk gx 79 [.slice EA' (n + 1) ec', .slice OA' (m + xs.length) oc'] :: Fct.own b 26 1 (.slice EA' (n + 1) ec') (n + 1) (R0.map GR.val ++ [s.val]) :: Fct.own b 52 1 (.slice OA' (m + xs.length) oc') (m + xs.length) ((R1 ++ xs.map grO7).map GR.val) :: Fct.rest w0 None :: Γ) w' := by
  refine weirlaw7_Outer_take_of (some ⟨gx, 0, none⟩) s.A s.n s.k w _ ?_
  unfold weirlaw7_Outer_take_VC
  have hz : ∀ {f1 f2 f3 : Fct} {Y : List Fct} {w' : World}, Sep (f1 :: f2 :: f3 :: Fct.rest w0 None :: Y) w' → b ≤ w'.heap.size := fun H => Nat.le_trans hb (H.restOf 3 rfl).size
  refine ⟨⟨gx, 0, none⟩, rfl, _, _, _, H.cell 0 rfl 0 rfl, NewVC.sep (cs := [.slice s.A s.n s.k]) H fun g1 w1 H => ?_⟩
  refine AppVC.sep (m := 1) H 1 Tryd.underlying76 tE7s rfl (by decide) rfl (Cells.blk0 (H.mem (f := Fct.blk g1 26 [.slice s.A s.n s.k]) (by simp))) rfl (fun v hv => by simp at hv; subst hv; rfl) (by omega) (by decide) (hz H) fun A1 c1' w2 H _ => ?_
  refine ⟨⟨gx, 0, none⟩, rfl, SetVC.sep H 0 rfl (show 0 < 2 by decide) fun w3 H => ?_⟩
  have H : Sep ((Fct.blk gx 79 [.slice A1 (n + 1) c1', .slice OA m oc] :: Fct.own b 26 1 (.slice A1 (n + 1) c1') (n + 1) (R0.map GR.val ++ [s.val]) :: Fct.own b 52 1 (.slice OA m oc) m (R1.map GR.val) :: Fct.rest w0 None :: Γ) ++ [Fct.blk g1 26 [.slice s.A s.n s.k]]) w3 := H
  have H := H.dropEnd
  have rd : ∀ {f1 f2 f3 : Fct} {w' : World}, Sep (f1 :: f2 :: f3 :: Fct.rest w0 None :: Γ) w' → ExtsAt w' s xs := fun {f1 f2 f3 w'} H => rX w' fun f hf => H.mem (List.mem_cons_of_mem _ (List.mem_cons_of_mem _ (List.mem_cons_of_mem _ hf)))
  have hxl := (rd H).len
  refine LoopVC.of (fun st w' => ∃ (i : Nat) (OA : Option Addr) (oc : Nat), st = (i : Int) ∧ i ≤ s.n ∧ Sep (Fct.blk gx 79 [.slice A1 (n + 1) c1', .slice OA (m + i) oc] :: Fct.own b 26 1 (.slice A1 (n + 1) c1') (n + 1) (R0.map GR.val ++ [s.val]) :: Fct.own b 52 1 (.slice OA (m + i) oc) (m + i) ((R1 ++ (xs.take i).map grO7).map GR.val) :: Fct.rest w0 None :: Γ) w') (fun st _ => ((s.n : Int) - st).toNat)
    ⟨0, OA, oc, rfl, Nat.zero_le _, by simpa using H⟩ ?_
  clear H
  rintro _ w4 ⟨i, OA, oc, rfl, hi, H⟩
  show weirlaw7_Outer_take_L14 _ (some ⟨gx, 0, none⟩) s.A s.n (i : Int) w4 _
  unfold weirlaw7_Outer_take_L14
  refine Br.dec (fun hlt => ?_) fun hge => ?_
  rotate_left
  · have hin : i = xs.length := by omega
    subst hin
    rw [List.take_length] at H
    exact ⟨rfl, A1, OA, c1', oc, H⟩
  obtain ⟨x, hx⟩ : ∃ x, xs[i]? = some x := ⟨_, List.getElem?_eq_getElem (by omega)⟩
  have e1 : IntKind.i64.wrap ((i : Int) + 1) = ((i + 1 : Nat) : Int) := by rw [w64 (by omega) (by omega)]; omega
  refine DrawVC.sep H (fun w' => Blk w' gx 79 [.slice A1 (n + 1) c1', .slice OA (m + i) oc] ∧ ExtsAt w' s xs) fun w5 H => ⟨⟨H.blk 0 rfl, rd H⟩, ?_⟩
  refine ⟨⟨gx, 0, none⟩, rfl, _, _, _, fun w' hb => cells_get (CellsAt.blk hb.1) 1 rfl, ?_⟩
  refine ExtsAt.idxD (S := fun w' => Blk w' gx 79 [.slice A1 (n + 1) c1', .slice OA (m + i) oc] ∧ ExtsAt w' s xs) ⟨H.blk 0 rfl, rd H⟩ (fun w' h => h.2) hx fun a ha => ⟨_, _, _, fun w' h => c1 (ha w' h), ?_⟩
  refine NewVC.sep (cs := [x.v.opts.val]) H fun g2 w6 H => ⟨⟨H.blk 0 rfl, rd (w' := w6) (H.sub (List.sublist_append_left _ _))⟩, ?_⟩
  refine AppVC.sep (m := 1) H 2 Tryd.underlying77 tO7s rfl (by decide) rfl (Cells.blk0 (H.mem (f := Fct.blk g2 52 [x.v.opts.val]) (by simp))) rfl (fun v hv => by simp at hv; subst hv; rfl) (by omega) (by decide) (hz H) fun A2 c2 w7 H _ => ?_
  have H : Sep ((Fct.blk gx 79 [.slice A1 (n + 1) c1', .slice OA (m + i) oc] :: Fct.own b 26 1 (.slice A1 (n + 1) c1') (n + 1) (R0.map GR.val ++ [s.val]) :: Fct.own b 52 1 (.slice A2 (m + i + 1) c2) (m + i + 1) ((R1 ++ (xs.take i).map grO7).map GR.val ++ [x.v.opts.val]) :: Fct.rest w0 None :: Γ) ++ [Fct.blk g2 52 [x.v.opts.val]]) w7 := H
  have H := H.dropEnd
  refine ⟨⟨H.blk 0 rfl, rd H⟩, ⟨gx, 0, none⟩, rfl, SetVC.sep H 0 rfl (show 1 < 2 by decide) fun w8 H => ⟨⟨i + 1, A2, c2, e1, by omega, ?_⟩, by rw [e1]; omega⟩⟩
  have e2 : ((R1 ++ (xs.take (i + 1)).map grO7).map GR.val) = (R1 ++ (xs.take i).map grO7).map GR.val ++ [x.v.opts.val] := by
    rw [take_snocA hx, List.map_append (f := grO7), ← List.append_assoc, List.map_append (f := GR.val)]; rfl
  rw [e2]
  exact H
def famX (b : Nat) (P : List Ip6R) : List Fct := P.flatMap fun r => readX b r.v.exts r.exts
theorem famX_snoc (b : Nat) (P : List Ip6R) (r : Ip6R) : famX b (P ++ [r]) = famX b P ++ readX b r.v.exts r.exts := by unfold famX; rw [List.flatMap_append]; simp
theorem ext_raw (b : Nat) (r : Ip6R) : (∀ w, (rowE b r.v.exts r.exts).φ w → (rawR b 54 3 (grX7 r)).φ w) ∧ ∀ k, (rawR b 54 3 (grX7 r)).R k → (rowE b r.v.exts r.exts).R k := own_le_row (A := r.v.exts.A) (n := r.v.exts.n) (c := r.v.exts.k) (Nat.le_refl b)
theorem famX_split : ∀ (P : List Ip6R) {Γ : List Fct}, Sep (Γ ++ famX b P) w → Sep (Γ ++ ((P.map grX7).map (rawR b 54 3) ++ ((allE P).map grO7).map (rawR b 65 2))) w
  | [], _, H => H
  | r :: P, Γ, H => by
    have H : Sep (Γ ++ (rowE b r.v.exts r.exts :: r.exts.flatMap (readX1 b) ++ famX b P)) w := H
    obtain ⟨F, hF⟩ : ∃ F, F = famX b P := ⟨_, rfl⟩
    rw [← hF] at H
    have H := read_pads (b := b) r.exts (Γ := Γ ++ (F ++ [rowE b r.v.exts r.exts])) (H.perm (perm_cnt fun c o h1 h2 h3 => by simp only [h1, h2, h3]; omega))
    have H := (H.sub ((List.Sublist.refl (Γ ++ (F ++ [rowE b r.v.exts r.exts]))).append (List.sublist_append_left (famO7 b r.exts) _)))
    have H := ((((AllLe.refl Γ).append ((AllLe.refl F).append (.cons (ext_raw b r).1 (ext_raw b r).2 .nil)))).append (AllLe.refl _)).sep H
    obtain ⟨E, hE⟩ : ∃ E, E = rawR b 54 3 (grX7 r) := ⟨_, rfl⟩
    obtain ⟨O, hO⟩ : ∃ O, O = famO7 b r.exts := ⟨_, rfl⟩
    rw [← hE, ← hO] at H
    have H := famX_split P (Γ := Γ ++ (E :: O)) (by
      rw [← hF]
      exact H.perm (perm_cnt fun c o h1 h2 h3 => by simp only [h1, h2, h3]; omega))
    have e1 : ((r :: P).map grX7).map (rawR b 54 3) = E :: (P.map grX7).map (rawR b 54 3) := by rw [hE]; rfl
    have e2 : ((allE (r :: P)).map grO7).map (rawR b 65 2) = O ++ ((allE P).map grO7).map (rawR b 65 2) := by
      rw [hO]
      show ((r.exts ++ allE P).map grO7).map _ = _
      rw [List.map_append, List.map_append, List.map_map]
      rfl
    rw [e1, e2]
    exact H.perm (perm_cnt fun c o h1 h2 h3 => by simp only [h1, h2]; omega)
end
end N6
end Go.Proofs.YtkiogaglmjeplaaDoor
